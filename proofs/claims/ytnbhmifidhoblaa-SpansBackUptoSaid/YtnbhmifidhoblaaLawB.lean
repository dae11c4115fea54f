/- Maps of spans: what the functions compute; the law of spans of a map and maps of spans. -/
import Derived.Test.YtnbhmifidhoblaaLawA
namespace Go.Proofs.Ytnbhmifidhoblaa.Abs
open Go
set_option linter.unusedVariables false
attribute [-simp] List.getD_eq_getElem?_getD

def inSp (s : Sp) (q : Nat) : Prop := s.1 ≤ q ∧ (q : Int) - s.1 < s.2.2
instance (s : Sp) (q : Nat) : Decidable (inSp s q) := by unfold inSp; infer_instance
def valSp (s : Sp) (q : Nat) : Int := IntKind.i64.wrap (s.2.1 + IntKind.i64.wrap ((q : Int) - s.1))
def paintTo (m : List Int) (s : Sp) (i : Nat) : List Int := (List.range m.length).map fun q => if q < i ∧ inSp s q then valSp s q else m.getD q 0

theorem paint_len (m : List Int) (s : Sp) (i : Nat) : (paintTo m s i).length = m.length := by simp [paintTo]
theorem paint_at (m : List Int) (s : Sp) (i q : Nat) (hq : q < m.length) : (paintTo m s i).getD q 0 = if q < i ∧ inSp s q then valSp s q else m.getD q 0 := by
  simp [paintTo, List.getD, hq]
theorem ext_getD {l m : List Int} (hl : l.length = m.length) (h : ∀ q, q < l.length → l.getD q 0 = m.getD q 0) : l = m := by
  apply List.ext_getElem hl
  intro q h1 h2
  have := h q h1
  simpa [List.getD, h1, h2] using this
theorem set_at (l : List Int) (i q : Nat) (v : Int) (hq : q < l.length) : (l.set i v).getD q 0 = if q = i then v else l.getD q 0 := by
  by_cases h : q = i
  · subst h; simp [List.getD, hq]
  · have h' : i ≠ q := fun e => h e.symm
    simp [List.getD, h, h']
theorem paint_set (m : List Int) (s : Sp) (i : Nat) (hi : i < m.length) (hp : inSp s i) : (paintTo m s i).set i (valSp s i) = paintTo m s (i + 1) := by
  refine ext_getD (by simp [paint_len]) fun q hq => ?_
  simp only [List.length_set, paint_len] at hq
  rw [set_at _ _ _ _ (by rw [paint_len]; exact hq), paint_at _ _ _ _ hq, paint_at _ _ _ _ hq]
  by_cases h : q = i
  · subst h; simp [hp]
  · have : q < i ↔ q < i + 1 := by omega
    simp [h, this]
theorem paint_skip (m : List Int) (s : Sp) (i : Nat) (hp : ¬ inSp s i) : paintTo m s i = paintTo m s (i + 1) := by
  refine ext_getD (by simp [paint_len]) fun q hq => ?_
  simp only [paint_len] at hq
  rw [paint_at _ _ _ _ hq, paint_at _ _ _ _ hq]
  by_cases h : q = i
  · subst h; simp [hp]
  · have : q < i ↔ q < i + 1 := by omega
    simp [this]
theorem paint_none (m : List Int) (s : Sp) (i : Nat) (hp : ∀ q, q < i → q < m.length → ¬ inSp s q) : paintTo m s i = m := by
  refine ext_getD (by simp [paint_len]) fun q hq => ?_
  simp only [paint_len] at hq
  rw [paint_at _ _ _ _ hq, if_neg]
  rintro ⟨h1, h2⟩; exact hp q h1 hq h2
theorem paint_rest (m : List Int) (s : Sp) (i : Nat) (hi : i ≤ m.length) (hp : ∀ q, i ≤ q → q < m.length → ¬ inSp s q) : paintTo m s i = paintTo m s m.length := by
  refine ext_getD (by simp [paint_len]) fun q hq => ?_
  simp only [paint_len] at hq
  rw [paint_at _ _ _ _ hq, paint_at _ _ _ _ hq]
  by_cases h : q < i
  · simp [h, hq]
  · have := hp q (by omega) hq
    simp [this]

def okSp (s : Sp) : Prop := -1000000 ≤ s.1 ∧ s.1 ≤ 1000000 ∧ s.2.2 ≤ 1000000

theorem has_is (s : Sp) (i : Nat) (h : okSp s) (hi : i ≤ 1000000) : spans_has (s, (i : Int)) = some (decide (inSp s i)) := by
  obtain ⟨h1, h2, h3⟩ := h
  unfold spans_has
  simp only
  by_cases hc : s.1 ≤ (i : Int)
  · rw [if_pos (by simpa using hc)]
    have e : IntKind.u64.wrap (IntKind.u64.wrap (i : Int) - IntKind.u64.wrap s.1) = (i : Int) - s.1 := by
      simp [IntKind.wrap, IntKind.signed, IntKind.bits]
      omega
    have e2 : IntKind.u64.wrap (if 0 > s.2.2 then 0 else s.2.2) = (if 0 > s.2.2 then 0 else s.2.2) := wrapu64 (by split <;> omega) (by split <;> omega)
    rw [e, e2]
    refine congrArg some (decide_eq_decide.2 ⟨fun h => ⟨hc, ?_⟩, fun h => ?_⟩)
    · split at h <;> omega
    · have := h.2
      split <;> omega
  · rw [if_neg (by simpa using hc)]
    exact congrArg some (decide_eq_false fun (h : inSp s i) => hc h.1).symm

def mapS (l : List Sp) (n : Nat) : Nat → List Int
  | 0 => List.replicate n 0
  | k + 1 => paintTo (mapS l n k) (l.getD k sp0) n

theorem mapS_len (l : List Sp) (n : Nat) : ∀ k, (mapS l n k).length = n
  | 0 => by simp [mapS]
  | k + 1 => by rw [mapS, paint_len, mapS_len l n k]

def cl (n1 : Int) : Int := if 65536 < (if 0 > n1 then 0 else n1) then 65536 else (if 0 > n1 then 0 else n1)
theorem cl_ok (n1 : Int) : 0 ≤ cl n1 ∧ cl n1 ≤ 65536 := by unfold cl; split <;> split at * <;> omega

theorem refMap_is (l : List Sp) (n1 : Int) (hl : l.length ≤ 1048576) (hs : ∀ k, k < l.length → okSp (l.getD k sp0)) : wainwrightref04_Map (l, n1) = some (mapS l (cl n1).toNat l.length) := by
  obtain ⟨c1, c2⟩ := cl_ok n1
  unfold wainwrightref04_Map
  simp only
  rw [show (if 65536 < (if 0 > n1 then 0 else n1) then 65536 else (if 0 > n1 then 0 else n1)) = cl n1 from rfl]
  rw [if_pos (by omega)]
  generalize hN : (cl n1).toNat = N
  have hcl : cl n1 = (N : Int) := by omega
  have hN2 : N ≤ 65536 := by omega
  rw [hcl]
  have := loop_run (f := wainwrightref04_Map.l1) (fun k => (mapS l N k, l, (N : Int), (k : Int))) (n := l.length) (r := mapS l N l.length) (fun k hk => by
    unfold wainwrightref04_Map.l1
    simp only
    rw [if_pos (by simp; omega)]
    have hm := mapS_len l N k
    have in2 := loop_run (f := wainwrightref04_Map.l2) (fun i => (paintTo (mapS l N k) (l.getD k sp0) i, l, (N : Int), (k : Int), (i : Int))) (n := N) (r := (paintTo (mapS l N k) (l.getD k sp0) N, l, (N : Int), (k : Int))) (fun i hi => by
      unfold wainwrightref04_Map.l2
      simp only [Int.toNat_natCast]
      have hk2 : 0 ≤ (k : Int) ∧ (k : Int) < (l.length : Int) := by omega
      rw [if_pos (by simp; omega)]
      have hok := hs k hk
      simp only [hk2, and_self, if_true]
      have e3 : 0 ≤ (i : Int) ∧ (i : Int) < ((paintTo (mapS l N k) (l.getD k sp0) i).length : Int) := by rw [paint_len, hm]; omega
      have hw : IntKind.i64.wrap ((i : Int) + 1) = ((i + 1 : Nat) : Int) := wrap_succ (by omega)
      have hset := paint_set (mapS l N k) (l.getD k sp0) i (by omega)
      have hskip := paint_skip (mapS l N k) (l.getD k sp0) i
      obtain ⟨h1, h2, h3⟩ := hok
      unfold inSp valSp at hset
      unfold inSp at hskip
      simp only [sp0] at *
      have hw2 : IntKind.i64.wrap ((i : Int) - (l.getD k (0, 0, 0)).1) = (i : Int) - (l.getD k (0, 0, 0)).1 := wrap64 (by omega) (by omega)
      simp only [hw2] at hset
      by_cases q1 : (l.getD k (0, 0, 0)).1 ≤ (i : Int)
      · by_cases q2 : (i : Int) - (l.getD k (0, 0, 0)).1 < (l.getD k (0, 0, 0)).2.2
        · have hset := hset ⟨q1, q2⟩
          simp only [q1, q2, decide_true, if_true, Option.bind_some, hk2, Int.toNat_natCast, hw, hw2, e3, and_self, hset]
        · have hskip := hskip (fun h => q2 h.2)
          simp only [q1, q2, decide_true, decide_false, if_true, Bool.false_eq_true, if_false, Option.bind_some, hk2, and_self, Int.toNat_natCast, hw, hw2, hskip]
      · have hskip := hskip (fun h => q1 h.1)
        simp only [q1, decide_false, Bool.false_eq_true, if_false, Option.bind_some, hw, hskip]) (by unfold wainwrightref04_Map.l2; simp)
    rw [paint_none _ _ 0 (fun q h => by omega)] at in2
    rw [show (0 : Int) = ((0 : Nat) : Int) from rfl, in2]
    simp only [Option.bind_some, wrap_succ (show k < 9223372036854775807 by omega), mapS]) (by unfold wainwrightref04_Map.l1; simp)
  rw [show (List.replicate N (0 : Int)) = mapS l N 0 from rfl, show (0 : Int) = ((0 : Nat) : Int) from rfl, this]; rfl

theorem Map_is (l : List Sp) (n1 : Int) (hl : l.length ≤ 1048576) (hs : ∀ k, k < l.length → okSp (l.getD k sp0)) : spans_Map (l, n1) = some (mapS l (cl n1).toNat l.length) := by
  obtain ⟨c1, c2⟩ := cl_ok n1
  unfold spans_Map
  simp only
  rw [show (if 65536 < (if 0 > n1 then 0 else n1) then 65536 else (if 0 > n1 then 0 else n1)) = cl n1 from rfl]
  rw [if_pos (by omega)]
  generalize hN : (cl n1).toNat = N
  have hN2 : N ≤ 65536 := by omega
  have := loop_run (f := spans_Map.l1) (fun k => (mapS l N k, l, (l.length : Int), (k : Int))) (n := l.length) (r := mapS l N l.length) (fun k hk => by
    unfold spans_Map.l1
    dsimp only
    rw [if_pos (by simp; omega), if_pos (by omega)]
    have hm := mapS_len l N k
    have hok := hs k hk
    have hww : IntKind.i64.wrap ((k : Int) + 1) = ((k + 1 : Nat) : Int) := wrap_succ (by omega)
    have hsp : l.getD k sp0 = l.getD ((k : Int)).toNat (0, 0, 0) := by rw [Int.toNat_natCast]
    rw [hww, mapS]
    rw [hsp] at hok ⊢
    generalize l.getD ((k : Int)).toNat (0, 0, 0) = s at hok ⊢
    rw [hm]
    obtain ⟨h1, h2, h3⟩ := hok
    by_cases q0 : s.2.2 ≤ 0
    · rw [if_neg (by simp; omega)]
      have := paint_none (mapS l N k) s N fun q _ _ (h : inSp s q) => by have h4 := h.1; have h5 := h.2; omega
      rw [this]
    · rw [if_pos (by simp; omega)]
      by_cases q1 : s.1 ≥ (N : Int)
      · rw [if_pos (by simpa using q1)]
        have := paint_none (mapS l N k) s N fun q hq _ (h : inSp s q) => by have h4 := h.1; omega
        rw [this]
      · rw [if_neg (by simpa using q1)]
        obtain ⟨a0, ha0⟩ : ∃ a0 : Nat, (if 0 > s.1 then 0 else s.1) = (a0 : Int) := ⟨(if 0 > s.1 then 0 else s.1).toNat, by split <;> omega⟩
        have ha : a0 ≤ N ∧ (∀ q, q < a0 → ¬ inSp s q) := by
          refine ⟨by split at ha0 <;> omega, fun q hq h => ?_⟩
          have h4 := h.1
          split at ha0 <;> omega
        rw [ha0]
        obtain ⟨sa, sb, sc⟩ := s
        obtain ⟨j, g1, g2, g3, g4, g5⟩ := loop_first (f := spans_Map.l2) (fun i => ((paintTo (mapS l N k) (sa, sb, sc) i, sa, sb, sc), (i : Int), l, (l.length : Int), (k : Int))) (fun i => !decide (inSp (sa, sb, sc) i)) (n := N)
          (r := fun i => (paintTo (mapS l N k) (sa, sb, sc) i, l, (l.length : Int), (k : Int))) (N - a0) a0 (by omega) (fun i hi1 hi2 => by
            unfold spans_Map.l2
            simp only [paint_len, hm]
            rw [if_pos (by simp; omega), has_is _ _ ⟨h1, h2, h3⟩ (by omega)]
            simp only [Option.bind_some]
            by_cases hp : inSp (sa, sb, sc) i
            · have hset := paint_set (mapS l N k) (sa, sb, sc) i (by omega) hp
              have hw : IntKind.i64.wrap ((i : Int) + 1) = ((i + 1 : Nat) : Int) := wrap_succ (by omega)
              have e3 : 0 ≤ (i : Int) ∧ (i : Int) < (N : Int) := by omega
              simp only [valSp] at hset
              simp only [hp, decide_true, Bool.not_true, if_true, Bool.false_eq_true, if_false, e3, and_self, hw, Int.toNat_natCast, hset]
            · simp only [hp, decide_false, Bool.not_false, if_true, Bool.false_eq_true, if_false]) (by
            unfold spans_Map.l2
            simp only [paint_len, hm]
            rw [if_neg (by simp)])
        rw [paint_none _ _ a0 (fun q h _ => ha.2 q h)] at g5
        rw [g5]
        simp only [Option.bind_some]
        have := paint_rest (mapS l N k) (sa, sb, sc) j (by omega) (fun q hq1 hq2 h => by
          rcases Nat.lt_or_ge j N with hj | hj
          · have h6 := g4 hj
            simp only [Bool.not_eq_true', decide_eq_false_iff_not] at h6
            refine h6 ⟨?_, ?_⟩
            · show sa ≤ (j : Int)
              split at ha0 <;> omega
            · have := h.2
              show (j : Int) - sa < sc
              have h7 : (q : Int) - sa < sc := this
              omega
          · omega)
        rw [hm] at this
        simp only [hww, this]) (by unfold spans_Map.l1; simp)
  rw [show (List.replicate N (0 : Int)) = mapS l N 0 from rfl, show (0 : Int) = ((0 : Nat) : Int) from rfl, this]; rfl

/-! ### Comparisons -/

theorem sameSp (a : List Sp) (h : a.length ≤ 1048576) : wainwrightref04_Same (a, a) = some true := by
  unfold wainwrightref04_Same
  dsimp only
  rw [if_neg (by simp)]
  have := loop_run (f := wainwrightref04_Same.l1) (fun i => (a, a, (i : Int))) (n := a.length) (r := .inl ()) (fun i hi => by
    unfold wainwrightref04_Same.l1
    dsimp only
    rw [if_pos (by simp; omega), if_pos (by omega), if_pos (by omega), if_neg (by simp)]
    rw [wrap_succ (by omega)]) (by unfold wainwrightref04_Same.l1; simp)
  rw [show (0 : Int) = ((0 : Nat) : Int) from rfl, this]; rfl

theorem sameInts (a : List Int) (h : a.length ≤ 1048576) : wainwrightref01_Same (a, a) = some true := by
  unfold wainwrightref01_Same
  dsimp only
  rw [if_neg (by simp)]
  have := loop_run (f := wainwrightref01_Same.l1) (fun i => (a, a, (i : Int))) (n := a.length) (r := .inl ()) (fun i hi => by
    unfold wainwrightref01_Same.l1
    dsimp only
    rw [if_pos (by simp; omega), if_pos (by omega), if_pos (by omega), if_neg (by simp)]
    rw [wrap_succ (by omega)]) (by unfold wainwrightref01_Same.l1; simp)
  rw [show (0 : Int) = ((0 : Nat) : Int) from rfl, this]; rfl

theorem early_is (m : List Int) (h : m.length ≤ 1048576) : wainwrightlaw04_early m = some (m.take 300) := by
  unfold wainwrightlaw04_early
  rw [if_pos (by split <;> omega)]
  congr 1
  split
  · rfl
  · rw [Int.toNat_natCast, List.take_length, List.take_of_length_le (by omega)]

def clampS (s : Sp) : Sp := ((if 70000 < (if (-1000) > s.1 then (-1000) else s.1) then 70000 else (if (-1000) > s.1 then (-1000) else s.1)), (if 70000 < (if (-1000) > s.2.1 then (-1000) else s.2.1) then 70000 else (if (-1000) > s.2.1 then (-1000) else s.2.1)), (if 300 < s.2.2 then 300 else s.2.2))
theorem clamp_ok (s : Sp) : okSp (clampS s) ∧ -1000 ≤ (clampS s).2.1 ∧ (clampS s).2.1 ≤ 70000 ∧ (clampS s).2.2 ≤ 300 ∧ -1000 ≤ (clampS s).1 ∧ (clampS s).1 ≤ 70000 := by
  unfold okSp clampS
  dsimp only
  refine ⟨⟨?_, ?_, ?_⟩, ?_, ?_, ?_, ?_, ?_⟩ <;> (repeat' split) <;> omega

def fewS (l : List Sp) : List Sp := (l.take 8).map clampS

theorem few_is (l : List Sp) (h : l.length ≤ 1048576) : wainwrightlaw04_few l = some (fewS l) := by
  unfold wainwrightlaw04_few
  have := loop_run (f := wainwrightlaw04_few.l1) (fun i => ((l.take i).map clampS, l, (i : Int))) (n := min l.length 8) (r := fewS l) (fun i hi => by
    unfold wainwrightlaw04_few.l1
    dsimp only
    have h1 : i < l.length := by omega
    have h2 : i < 8 := by omega
    rw [if_pos (by simp; omega), if_pos (by simp; omega), if_pos (by omega), if_pos (room (by omega) (by simp; omega)), wrap_succ (by omega), Int.toNat_natCast, take_succ_getD h1 sp0, List.map_append]
    rfl) (by
    unfold wainwrightlaw04_few.l1 fewS
    dsimp only
    by_cases hl : l.length ≤ 8
    · rw [if_neg (by simp; omega)]
      rw [Nat.min_eq_left hl, List.take_length, List.take_of_length_le hl]
    · rw [if_pos (by simp; omega), if_neg (by simp; omega), Nat.min_eq_right (by omega)])
  rw [show ([] : List Sp) = (l.take 0).map clampS by simp, show (0 : Int) = ((0 : Nat) : Int) from rfl, this]; rfl

theorem fewS_ok (l : List Sp) : (fewS l).length ≤ 8 ∧ ∀ k, k < (fewS l).length → okSp ((fewS l).getD k sp0) := by
  refine ⟨by simp [fewS]; omega, fun k hk => ?_⟩
  have : (fewS l).getD k sp0 = clampS ((l.take 8)[k]'(by simpa [fewS] using hk)) := by
    simp only [fewS, List.length_map] at hk
    simp only [fewS, List.getD, List.getElem?_map, List.getElem?_eq_getElem hk, Option.map_some, Option.getD_some]
  rw [this]; exact (clamp_ok _).1

theorem wainwrightlaw04_SpansOf_row (x0 : List Int) (x1 : List (Int × Int × Int)) (x2 : Int) (w0 : wfD (.sl I) x0) (w1 : wfD (.sl (.st (.pair I (.pair I I)))) x1) (w2 : wfD I x2)
    (hb : bulk (.sl I) x0 + bulk (.sl (.st (.pair I (.pair I I)))) x1 + bulk I x2 ≤ 1048576) : wainwrightlaw04_SpansOf (x0, x1, x2) = some true := by
  have hl0 : x0.length < bulk (.sl I) x0 := bulk_ints x0
  have hl1 : x1.length < bulk (.sl (.st (.pair I (.pair I I)))) x1 := bulk_structs (.pair I (.pair I I)) x1
  have e0 : x0.length ≤ 1048576 := by omega
  have e1 : x1.length ≤ 1048576 := by omega
  obtain ⟨f1, f2⟩ := fewS_ok x1
  have e2 : (x0.take 300).length ≤ 300 := by simp; omega
  unfold wainwrightlaw04_SpansOf
  simp only [lives_is, Option.bind_some, early_is x0 e0, few_is x1 e1, Of_is _ (show (x0.take 300).length ≤ 65536 by omega), refOf_is _ (show (x0.take 300).length ≤ 65536 by omega)]
  have e3 := ofS_len (x0.take 300) (x0.take 300).length
  rw [sameSp _ (by omega)]
  simp only [Option.bind_some, if_true, Map_is _ _ (show (fewS x1).length ≤ 1048576 by omega) f2, refMap_is _ _ (show (fewS x1).length ≤ 1048576 by omega) f2]
  have e4 := mapS_len (fewS x1) (cl (if 400 < x2 then 400 else x2)).toNat (fewS x1).length
  have e5 := cl_ok (if 400 < x2 then 400 else x2)
  rw [sameInts _ (by omega)]
  rfl

end Go.Proofs.Ytnbhmifidhoblaa.Abs
