/- Maps of spans in their order; the laws that a map comes back, and that spans are those of their map. -/
import Derived.Test.YtnbhmifidhoblaaLawC
namespace Go.Proofs.Ytnbhmifidhoblaa.Abs
open Go
set_option linter.unusedVariables false
attribute [-simp] List.getD_eq_getElem?_getD

theorem val_snoc : ∀ (l : List Sp) (s : Sp) (q : Int), Good (l ++ [s]) → val (l ++ [s]) q = if s.1 ≤ q ∧ q - s.1 < s.2.2 then s.2.1 + (q - s.1) else val l q
  | [], s, q, _ => rfl
  | h :: l, s, q, hg => by
    have ih := val_snoc l s q hg.tail
    have hs := good_starts hg s (by simp)
    have e : val (h :: l ++ [s]) q = if h.1 ≤ q ∧ q - h.1 < h.2.2 then h.2.1 + (q - h.1) else val (l ++ [s]) q := rfl
    have e2 : val (h :: l) q = if h.1 ≤ q ∧ q - h.1 < h.2.2 then h.2.1 + (q - h.1) else val l q := rfl
    rw [e, e2, ih]
    by_cases c : h.1 ≤ q ∧ q - h.1 < h.2.2
    · rw [if_pos c, if_neg (by omega), if_pos c]
    · rw [if_neg c, if_neg c]

theorem good_take {l : List Sp} (h : Good l) (k : Nat) : Good (l.take k) := by
  rw [good_index] at h ⊢
  intro j hj
  have hj2 : j < k ∧ j < l.length := by simp at hj; omega
  have e : ∀ i, i < k → (l.take k).getD i sp0 = l.getD i sp0 := fun i hi => by simp [List.getD, List.getElem?_take, hi]
  obtain ⟨h1, h2⟩ := h j hj2.2
  rw [e j hj2.1]
  refine ⟨h1, fun h0 => ?_⟩
  rw [e (j - 1) (by omega)]
  exact h2 h0

theorem mapS_val {l : List Sp} (h : Good l) (n : Nat) : ∀ k, k ≤ l.length → ∀ q : Nat, q < n → (mapS l n k).getD q 0 = val (l.take k) q
  | 0, _, q, hq => by simp [mapS, val, List.getD, hq]
  | k + 1, hk, q, hq => by
    have ih := mapS_val h n k (by omega) q hq
    have hm := mapS_len l n k
    have et := take_succ_getD (show k < l.length by omega) sp0
    have hgt := good_take h (k + 1)
    rw [et] at hgt ⊢
    rw [val_snoc _ _ _ hgt, mapS, paint_at _ _ _ _ (by rw [hm]; exact hq), ih]
    have hok := ((good_index l).1 h k (by omega)).1
    obtain ⟨o1, o2, o3, o4, o5, o6⟩ := hok
    by_cases c : inSp (l.getD k sp0) q
    · rw [if_pos ⟨hq, c⟩, if_pos (show _ ∧ _ from c)]
      have c1 := c.1
      have c2 := c.2
      unfold valSp
      rw [wrap64 (n := (q : Int) - (l.getD k sp0).1) (by omega) (by omega), wrap64 (by omega) (by omega)]
    · have c' : ¬ ((l.getD k sp0).1 ≤ (q : Int) ∧ (q : Int) - (l.getD k sp0).1 < (l.getD k sp0).2.2) := c
      rw [if_neg (fun hh => c hh.2), if_neg c']

theorem last_mem : ∀ {l : List Sp}, l ≠ [] → lastSp l ∈ l
  | l, h => by
    have hl : 0 < l.length := List.length_pos_iff.2 h
    unfold lastSp
    rw [getD_lt (by omega)]
    exact List.getElem_mem _

theorem ends_last : ∀ {l : List Sp}, Good l → l ≠ [] → Ends l ((lastSp l).1 + (lastSp l).2.2)
  | [s], _, _ => fun t ht => by
    simp only [List.mem_singleton] at ht
    subst ht
    exact Int.le_refl _
  | s :: c :: r, h, _ => fun t ht => by
    have e : lastSp (s :: c :: r) = lastSp (c :: r) := by simp [lastSp, List.getD]
    rw [e]
    have hl := last_mem (l := c :: r) (by simp)
    rcases List.mem_cons.1 ht with rfl | ht
    · have h1 := good_starts h _ hl
      have h2 := (good_mem h.2.2 _ hl).2.2.1
      omega
    · exact ends_last h.2.2 (by simp) t ht

theorem Of_map {l : List Sp} (h : Good l) (n : Nat) (hn : n ≤ 65536) (he : Ends l n) : ofS (mapS l n l.length) (mapS l n l.length).length = l := by
  rw [mapS_len, ofS_ofF]
  have e : ofF (fun q => (mapS l n l.length).getD q.toNat 0) n = ofF (val l) n := ofF_congr n fun q hq => by
    rw [Int.toNat_natCast, mapS_val h n l.length (Nat.le_refl _) q hq, List.take_length]
  rw [e, ofF_val h n hn, cut_all h he]

theorem wainwrightlaw04_SpansOnly_row (x0 : List (Int × Int × Int)) (w0 : wfD (.sl (.st (.pair I (.pair I I)))) x0)
    (hb : bulk (.sl (.st (.pair I (.pair I I)))) x0 ≤ 1048576) : wainwrightlaw04_SpansOnly x0 = some true := by
  have hl1 : x0.length < bulk (.sl (.st (.pair I (.pair I I)))) x0 := bulk_structs (.pair I (.pair I I)) x0
  have e1 : x0.length ≤ 1048576 := by omega
  have f1 := (fewS_ok x0).1
  have f3 : ∀ k, k < (fewS x0).length → near0 ((fewS x0).getD k sp0) := fun k hk => by
    have hk8 : k < (x0.take 8).length := by simpa [fewS] using hk
    have : (fewS x0).getD k sp0 = clampS ((x0.take 8)[k]) := by
      simp only [fewS, List.getD, List.getElem?_map, List.getElem?_eq_getElem hk8, Option.map_some, Option.getD_some]
    rw [this]
    obtain ⟨⟨a1, a2, a3⟩, a4, a5, a6, a7, a8⟩ := clamp_ok ((x0.take 8)[k])
    refine ⟨a1, a2, by omega, by omega, a3, ?_⟩
    have hmem : (x0.take 8)[k] ∈ x0 := List.mem_of_mem_take (List.getElem_mem hk8)
    have hw := w0 _ hmem
    have hw3 : (Lit.int .i64 ((x0.take 8)[k]).2.2).wf = true := hw.2.2
    have := (i64_wf hw3).1
    unfold clampS
    dsimp only
    split <;> omega
  unfold wainwrightlaw04_SpansOnly
  simp only [lives_is, Option.bind_some, few_is x0 e1, Bool.not_true, Bool.false_eq_true, if_false]
  generalize fewS x0 = l at f1 f3
  obtain ⟨b, hb1, hb2⟩ := Right_is l (by omega) f3
  rw [hb1]
  cases b with
  | false =>
    simp only [Option.bind_some, Bool.not_false, if_true]
    have : spans_Cut (l, 5) = some [] := by
      unfold spans_Cut
      dsimp only
      rw [hb1]
      simp
    rw [this]; rfl
  | true =>
    have hg := hb2.1 rfl
    simp only [Option.bind_some, Bool.not_true, Bool.false_eq_true, if_false]
    obtain ⟨n, hn, hn2, hne⟩ : ∃ n : Nat, n ≤ 65536 ∧ Ends l n ∧ ((if decide ((l.length : Int) > 0) = true then
                if 0 ≤ IntKind.i64.wrap ((l.length : Int) - 1) ∧ IntKind.i64.wrap ((l.length : Int) - 1) < (l.length : Int) then
                  if 0 ≤ IntKind.i64.wrap ((l.length : Int) - 1) ∧ IntKind.i64.wrap ((l.length : Int) - 1) < (l.length : Int) then
                    some (((l, IntKind.i64.wrap (((l.getD ((IntKind.i64.wrap ((l.length : Int) - 1)).toNat) (0, (0, 0))).1) + (((l.getD ((IntKind.i64.wrap ((l.length : Int) - 1)).toNat) (0, (0, 0))).2).2)))))
                  else none
                else none
              else
                some (((l, 0)))) : Option ((List (Int × Int × Int)) × Int)) = some (l, (n : Int)) := by
      by_cases h0 : l = []
      · subst h0
        exact ⟨0, by omega, fun t ht => (by cases ht), by simp⟩
      · have hl : 0 < l.length := List.length_pos_iff.2 h0
        obtain ⟨o1, o2, o3, o4, o5, o6⟩ := good_mem hg _ (last_mem h0)
        have he := ends_last hg h0
        refine ⟨((lastSp l).1 + (lastSp l).2.2).toNat, by omega, fun t ht => by have := he t ht; omega, ?_⟩
        have hw : IntKind.i64.wrap ((l.length : Int) - 1) = (l.length : Int) - 1 := wrap64 (by omega) (by omega)
        have e3 : ((l.length : Int) - 1).toNat = l.length - 1 := by omega
        rw [hw, if_pos (by simp; omega), if_pos (by omega), if_pos (by omega), e3]
        rw [show l.getD (l.length - 1) (0, 0, 0) = lastSp l from rfl, wrap64 (by omega) (by omega)]
        congr 2
        omega
    rw [hne]
    simp only [Option.bind_some]
    have hok : ∀ k, k < l.length → okSp (l.getD k sp0) := fun k hk => by
      obtain ⟨a1, a2, a3, a4, a5, a6⟩ := f3 k hk
      exact ⟨a1, a2, a5⟩
    rw [Map_is l n (by omega) hok]
    have hcl : (cl (n : Int)).toNat = n := by unfold cl; split <;> split at * <;> omega
    rw [hcl]
    simp only [Option.bind_some]
    rw [Of_is _ (by rw [mapS_len]; exact hn), Of_map hg n hn hn2]
    simp only [Option.bind_some]
    rw [sameSp l (by omega)]
    rfl

/-! ### A map comes back -/

theorem At_loop (i : Nat) (hi : i ≤ 65536) : ∀ (r p : List Sp), (p ++ r).length ≤ 1048576 → (∀ s ∈ r, okS s) →
    ∃ d, loopO spans_At.l1 ((i : Int), p ++ r, ((p ++ r).length : Int), (p.length : Int)) = some d ∧ (match d with | .inl _ => (0 : Int) | .inr x => x) = val r i
  | [], p, _, _ => by
    refine ⟨.inl (), loopO_inr ?_, rfl⟩
    unfold spans_At.l1
    dsimp only
    rw [if_neg (by simp)]
  | s :: r, p, hl, hok => by
    have hlen : (p ++ s :: r).length = p.length + r.length + 1 := by simp; omega
    have hg : (p ++ s :: r).getD p.length (0, 0, 0) = s := by simp [List.getD]
    obtain ⟨o1, o2, o3, o4, o5, o6⟩ := hok s List.mem_cons_self
    have hhas := has_is s i ⟨by omega, by omega, by omega⟩ (by omega)
    have ev : val (s :: r) i = if s.1 ≤ (i : Int) ∧ (i : Int) - s.1 < s.2.2 then s.2.1 + ((i : Int) - s.1) else val r i := rfl
    by_cases c : inSp s i
    · refine ⟨.inr (s.2.1 + ((i : Int) - s.1)), loopO_inr ?_, by rw [ev, if_pos (show _ ∧ _ from c)]⟩
      have c1 := c.1
      have c2 := c.2
      unfold spans_At.l1
      dsimp only
      rw [if_pos (by rw [hlen]; simp; omega), if_pos (by rw [hlen]; omega), Int.toNat_natCast, hg, hhas]
      simp only [Option.bind_some, c, decide_true, if_true]
      rw [wrap64 (n := (i : Int) - s.1) (by omega) (by omega), wrap64 (by omega) (by omega)]
    · have hstep : spans_At.l1 ((i : Int), p ++ s :: r, ((p ++ s :: r).length : Int), (p.length : Int)) = some (.inl ((i : Int), p ++ s :: r, ((p ++ s :: r).length : Int), ((p.length + 1 : Nat) : Int))) := by
        unfold spans_At.l1
        dsimp only
        rw [if_pos (by rw [hlen]; simp; omega), if_pos (by rw [hlen]; omega), Int.toNat_natCast, hg, hhas]
        simp only [Option.bind_some, c, decide_false, Bool.false_eq_true, if_false]
        rw [wrap_succ (by omega)]
      obtain ⟨d, hd, hv⟩ := At_loop i hi r (p ++ [s]) (by simpa using hl) (fun t ht => hok t (List.mem_cons_of_mem _ ht))
      refine ⟨d, ?_, ?_⟩
      · rw [loopO_inl hstep]
        simpa using hd
      · rw [ev, if_neg (show ¬ (_ ∧ _) from c)]; exact hv

theorem At_is {l : List Sp} (hl : l.length ≤ 1048576) (h : Good l) (i : Nat) (hi : i ≤ 65536) : spans_At (l, (i : Int)) = some (val l i) := by
  unfold spans_At
  dsimp only
  obtain ⟨d, hd, hv⟩ := At_loop i hi l [] (by simpa using hl) (good_mem h)
  simp only [List.nil_append, List.length_nil] at hd
  rw [show ((0 : Nat) : Int) = 0 from rfl] at hd
  rw [hd]
  cases d with
  | inl u => exact congrArg some hv
  | inr x => exact congrArg some hv

def sumLen : List Sp → Int
  | [] => 0
  | s :: r => s.2.2 + sumLen r

theorem sum_ends : ∀ {l : List Sp} {n : Int}, Good l → Ends l n → 0 ≤ sumLen l ∧ (∀ s ∈ l.head?, sumLen l ≤ n - s.1)
  | [], n, _, _ => ⟨Int.le_refl _, fun s hs => by simp at hs⟩
  | s :: r, n, h, he => by
    obtain ⟨h1, h2⟩ := sum_ends h.tail (fun t ht => he t (List.mem_cons_of_mem _ ht))
    obtain ⟨o1, o2, o3, o4, o5, o6⟩ := h.head
    have e0 := he s List.mem_cons_self
    simp only [sumLen]
    refine ⟨by omega, fun t ht => ?_⟩
    simp only [List.head?_cons, Option.mem_def, Option.some.injEq] at ht
    subst ht
    cases r with
    | nil => simp only [sumLen]; omega
    | cons c r =>
      have h3 := h2 c rfl
      have h4 := h.2.1.1
      omega

theorem Blocks_loop : ∀ (r p : List Sp) (out : List Int), (p ++ r).length ≤ 1048576 → (∀ s ∈ r, okS s) → (out.length : Int) + sumLen r ≤ 65536 →
    ∃ out', loopO spans_Blocks.l1 (out, p ++ r, ((p ++ r).length : Int), (p.length : Int)) = some out' ∧ (out'.length : Int) = out.length + sumLen r
  | [], p, out, _, _, _ => by
    refine ⟨out, loopO_inr ?_, by simp [sumLen]⟩
    unfold spans_Blocks.l1
    dsimp only
    rw [if_neg (by simp)]
  | s :: r, p, out, hl, hok, hs => by
    have hlen : (p ++ s :: r).length = p.length + r.length + 1 := by simp; omega
    have hg : (p ++ s :: r).getD p.length (0, 0, 0) = s := by simp [List.getD]
    obtain ⟨o1, o2, o3, o4, o5, o6⟩ := hok s List.mem_cons_self
    have hpos : ∀ (q : List Sp), (∀ s ∈ q, okS s) → 0 ≤ sumLen q := fun q hq => by
      induction q with
      | nil => exact Int.le_refl _
      | cons a q ih =>
        have h1 := (hq a List.mem_cons_self).2.2.1
        have h2 := ih fun t ht => hq t (List.mem_cons_of_mem _ ht)
        simp only [sumLen]; omega
    have hr0 := hpos r fun t ht => hok t (List.mem_cons_of_mem _ ht)
    simp only [sumLen] at hs ⊢
    obtain ⟨k, hk⟩ : ∃ k : Nat, s.2.2 = (k : Int) := ⟨s.2.2.toNat, by omega⟩
    have hin : ∃ o2 : List Int, o2.length = out.length + k ∧ loopO spans_Blocks.l2 ((out, s.1, s.2.1, s.2.2), p ++ s :: r, ((p ++ s :: r).length : Int), (p.length : Int), (k : Int), 0) = some (o2, p ++ s :: r, ((p ++ s :: r).length : Int), (p.length : Int)) := by
      refine ⟨out ++ (List.range k).map fun (j : Nat) => IntKind.i64.wrap (s.2.1 + (j : Int)), by simp, ?_⟩
      have := loop_run (f := spans_Blocks.l2) (fun j => ((out ++ (List.range j).map fun (j : Nat) => IntKind.i64.wrap (s.2.1 + (j : Int)), s.1, s.2.1, s.2.2), p ++ s :: r, ((p ++ s :: r).length : Int), (p.length : Int), (k : Int), (j : Int))) (n := k)
        (r := (out ++ (List.range k).map fun (j : Nat) => IntKind.i64.wrap (s.2.1 + (j : Int)), p ++ s :: r, ((p ++ s :: r).length : Int), (p.length : Int))) (fun j hj => by
          unfold spans_Blocks.l2
          dsimp only
          rw [if_pos (by simp; omega), if_pos (room (by omega) (by simp; omega)), wrap_succ (by omega), List.range_succ, List.map_append, List.append_assoc]
          rfl) (by
          unfold spans_Blocks.l2
          dsimp only
          rw [if_neg (by simp)])
      simpa using this
    obtain ⟨o2', hol, hin⟩ := hin
    have hstep : spans_Blocks.l1 (out, p ++ s :: r, ((p ++ s :: r).length : Int), (p.length : Int)) = some (.inl (o2', p ++ s :: r, ((p ++ s :: r).length : Int), ((p.length + 1 : Nat) : Int))) := by
      unfold spans_Blocks.l1
      dsimp only
      have hmm : (if 65536 < (if 0 > s.2.2 then 0 else s.2.2) then 65536 else (if 0 > s.2.2 then 0 else s.2.2)) = (k : Int) := by split <;> split at * <;> omega
      rw [if_pos (by rw [hlen]; simp; omega), if_pos (by rw [hlen]; omega), Int.toNat_natCast, hg, hmm, hin]
      simp only [Option.bind_some]
      rw [wrap_succ (by omega)]
    obtain ⟨o3', h3, h4⟩ := Blocks_loop r (p ++ [s]) o2' (by simpa using hl) (fun t ht => hok t (List.mem_cons_of_mem _ ht)) (by omega)
    refine ⟨o3', ?_, by omega⟩
    rw [loopO_inl hstep]
    simpa using h3

theorem Blocks_is {l : List Sp} (hl : l.length ≤ 1048576) (h : Good l) (hs : sumLen l ≤ 65536) : ∃ out, spans_Blocks l = some out ∧ (out.length : Int) = sumLen l := by
  obtain ⟨out, h1, h2⟩ := Blocks_loop l [] [] (by simpa using hl) (good_mem h) (by simpa using hs)
  refine ⟨out, ?_, by simpa using h2⟩
  unfold spans_Blocks
  simp only [List.nil_append, List.length_nil] at h1
  rw [show ((0 : Nat) : Int) = 0 from rfl] at h1
  rw [h1]; rfl

theorem sum_add : ∀ (l : List Sp) (x : Sp), Good l → x.2.2 = 1 → sumLen (addS l x) = sumLen l + 1
  | [], x, _, hx => by
    have e : addS [] x = [x] := rfl
    rw [e]; simp [sumLen, hx]
  | [s], x, hg, hx => by
    have hg' : okS s := hg
    obtain ⟨o1, o2, o3, o4, o5, o6⟩ := hg'
    have el : lastSp [s] = s := rfl
    unfold addS
    rw [el]
    by_cases hj : 0 < [s].length ∧ joinsS s x = true
    · rw [if_pos hj, hx, wrap64 (n := s.2.2 + 1) (by omega) (by omega)]
      simp [sumLen]
    · rw [if_neg hj]
      simp [sumLen, hx]
  | s :: c :: r, x, hg, hx => by
    rw [addS_cons (by simp)]
    have := sum_add (c :: r) x hg.2.2 hx
    simp only [sumLen] at this ⊢
    omega

/-- How many are not 0. -/
def used (m : List Int) : Nat → Nat
  | 0 => 0
  | i + 1 => if m.getD i 0 = 0 then used m i else used m i + 1
theorem used_le (m : List Int) : ∀ i, used m i ≤ i
  | 0 => Nat.le_refl _
  | i + 1 => by
    have := used_le m i
    simp only [used]; split <;> omega

theorem sum_of (m : List Int) (h : m.length ≤ 65536) (hm : ∀ q, q < m.length → 0 ≤ m.getD q 0 ∧ m.getD q 0 < 65536) : ∀ i, i ≤ m.length → sumLen (ofS m i) = used m i
  | 0, _ => rfl
  | i + 1, hi => by
    have ih := sum_of m h hm i (by omega)
    have hb := hm i (by omega)
    have hg := (ofF_good (fun q => m.getD q.toNat 0) i (by omega)).1
    rw [← ofS_ofF] at hg
    simp only [ofS, used]
    by_cases c : m.getD i 0 = 0
    · rw [if_neg (by omega), if_pos c, ih]
    · rw [if_pos (by omega), if_neg c, sum_add _ _ hg rfl, ih]
      omega

theorem wainwrightlaw04_SpansBack_row (x0 : List Int) (w0 : wfD (.sl I) x0) (hb : bulk (.sl I) x0 ≤ 1048576) : wainwrightlaw04_SpansBack x0 = some true := by
  have hl0 : x0.length < bulk (.sl I) x0 := bulk_ints x0
  have e0 : x0.length ≤ 1048576 := by omega
  have e2 : (x0.take 300).length ≤ 300 := by simp; omega
  unfold wainwrightlaw04_SpansBack
  simp only [lives_is, Option.bind_some, early_is x0 e0, Bool.not_true, Bool.false_eq_true, if_false]
  generalize x0.take 300 = m at e2
  obtain ⟨j, _, hj, hbefore, hstop, hrun⟩ := loop_first (f := wainwrightlaw04_SpansBack.l1) (fun k => (m, (k : Int))) (fun k => decide (m.getD k 0 < 0) || decide (m.getD k 0 > 65535)) (n := m.length)
    (r := fun k => if k < m.length then .inr true else .inl m) m.length 0 (by omega) (fun k _ hk => by
      unfold wainwrightlaw04_SpansBack.l1
      dsimp only
      rw [if_pos (by simp; omega), if_pos (by omega), Int.toNat_natCast, if_pos hk]
      by_cases c1 : m.getD k 0 < 0
      · rw [if_neg (by simpa using c1), if_pos (by simp [c1])]
      · rw [if_pos (by simpa using c1), if_pos (by omega)]
        by_cases c2 : m.getD k 0 > 65535
        · rw [if_pos (by simpa using c2), if_pos (by simp [c2])]
        · rw [if_neg (by simpa using c2), if_neg (by simp [c1, c2]), wrap_succ (by omega)]) (by
      unfold wainwrightlaw04_SpansBack.l1
      dsimp only
      rw [if_neg (by simp), if_neg (by omega)])
  rw [show (0 : Int) = ((0 : Nat) : Int) from rfl, hrun]
  rcases Nat.lt_or_ge j m.length with hlt | hge
  · simp [hlt]
  · have hjm : j = m.length := by omega
    subst hjm
    have hm : ∀ q, q < m.length → 0 ≤ m.getD q 0 ∧ m.getD q 0 < 65536 := fun q hq => by
      have := hbefore q (by omega) hq
      simp only [Bool.or_eq_false_iff, decide_eq_false_iff_not] at this
      omega
    rw [if_neg (by omega)]
    simp only [Option.bind_some]
    rw [Of_is m (by omega)]
    simp only [Option.bind_some]
    obtain ⟨g1, g2, g3⟩ := ofS_good m (by omega)
    have hlen := ofS_len m m.length
    have hsum := sum_of m (by omega) hm m.length (Nat.le_refl _)
    have hused := used_le m m.length
    have hval : ∀ q : Nat, q < m.length → val (ofS m m.length) q = m.getD q 0 := fun q hq => by
      have := hm q hq
      rw [g3 q hq, clip]
      split <;> omega
    have hpast : val (ofS m m.length) ((m.length : Nat) : Int) = 0 := val_past g2
    generalize ofS m m.length = L at g1 g2 g3 hlen hsum hval hpast
    rw [Right_good (by omega) g1]
    simp only [Option.bind_some, Bool.not_true, if_true]
    rw [Map_is L _ (by omega) (fun k hk => by
      obtain ⟨a1, a2, a3, a4, a5, a6⟩ := good_near g1 k hk
      exact ⟨a1, a2, a5⟩)]
    have hcl : (cl (m.length : Int)).toNat = m.length := by unfold cl; split <;> split at * <;> omega
    rw [hcl]
    simp only [Option.bind_some]
    have hmm : mapS L m.length L.length = m := ext_getD (mapS_len _ _ _) fun q hq => by
      rw [mapS_len] at hq
      rw [mapS_val g1 m.length L.length (Nat.le_refl _) q hq, List.take_length, hval q hq]
    rw [hmm, sameInts m (by omega)]
    simp only [Option.bind_some, Bool.not_true, Bool.false_eq_true, if_false]
    have := loop_run (f := wainwrightlaw04_SpansBack.l2) (fun i => (m, L, ((used m i : Nat) : Int), (i : Int))) (n := m.length) (r := .inl (m, L, ((used m m.length : Nat) : Int))) (fun i hi => by
      have hu := used_le m i
      unfold wainwrightlaw04_SpansBack.l2
      dsimp only
      rw [if_pos (by simp; omega), At_is (by omega) g1 i (by omega), hval i hi]
      simp only [Option.bind_some, Int.toNat_natCast]
      rw [if_pos (by omega), if_neg (by simp), if_pos (by omega), wrap_succ (show i < 9223372036854775807 by omega), wrap_succ (show used m i < 9223372036854775807 by omega)]
      by_cases c : m.getD i 0 = 0
      · rw [if_neg (by simpa using c), used, if_pos c]
      · rw [if_pos (by simpa using c), used, if_neg c]) (by
      unfold wainwrightlaw04_SpansBack.l2
      dsimp only
      rw [if_neg (by simp)])
    rw [show (m, L, ((0 : Nat) : Int), ((0 : Nat) : Int)) = (m, L, ((used m 0 : Nat) : Int), ((0 : Nat) : Int)) from rfl, this]
    simp only [Option.bind_some]
    obtain ⟨out, ho, hol⟩ := Blocks_is (by omega) g1 (by omega)
    rw [ho]
    simp only [Option.bind_some]
    rw [hol, hsum, if_pos (by simp), At_is (by omega) g1 m.length (by omega), hpast]
    rfl

end Go.Proofs.Ytnbhmifidhoblaa.Abs
