/- Slabs: a crash that keeps all is a flush. -/
import Derived.Test.YtejeollidbbknaaLawD
namespace Go.Proofs.Ytejeollidbbknaa.Abs
open Go
set_option linter.unusedVariables false
attribute [-simp] List.getD_eq_getElem?_getD

abbrev Three := (Int × Int) × (Int × Int) × (Int × Int) × List (List UInt8) × (List (Int × List UInt8)) × List (List UInt8) × (List (Int × List UInt8)) × List (List UInt8) × List (Int × List UInt8)
def threeS (s : Sl) : Three := (s.1, s.1, s.1, s.2.1, s.2.2, s.2.1, s.2.2, s.2.1, s.2.2)

theorem call_free {s : Sl} (h : s.1.2 = -1) : callS s = (((s.1.1 + 1, -1), s.2), 0) := by
  unfold callS
  rw [if_neg (by rw [h]; decide), if_neg (by rw [h]; decide), h]
theorem write_free {s : Sl} (h : s.1.2 = -1) (i : Int) (b : Blk) : (writeS s i b).1.1.2 = -1 ∧ (writeS s i b).1.2.1 = s.2.1 := by
  unfold writeS
  rw [call_free h, if_neg (by simp)]
  split <;> exact ⟨rfl, rfl⟩
theorem flush_free {s : Sl} (h : s.1.2 = -1) : flushS s = (((s.1.1 + 1, -1), imageS s.2.1 s.2.2, []), 0) := by
  unfold flushS
  rw [call_free h, if_pos rfl]
theorem does_free {s : Sl} (h : s.1.2 = -1) (o : OpD) : (doesS o s).1.1.2 = -1 := by
  unfold doesS
  split
  · exact (write_free h _ _).1
  · rw [flush_free h]

theorem keeps_step1 (a b : List OpD) (i : Nat) (hi : i < a.length) (hl : a.length ≤ 200) {s : Sl} (h : Okay 9 i s) (ht : s.1.2 = -1) :
    ∃ s2, Okay 9 (i + 1) s2 ∧ s2.1.2 = -1 ∧ wainwrightlaw02_SlabKeeps.l1 (threeS s, a, b, (i : Int)) = some (.inl (threeS s2, a, b, ((i + 1 : Nat) : Int))) := by
  have hw := wrap_succ (n := i) (by omega)
  unfold wainwrightlaw02_SlabKeeps.l1 threeS
  obtain ⟨⟨c, u⟩, xs, es⟩ := s
  have hb : (0 : Int) ≤ (i : Int) ∧ (i : Int) < (a.length : Int) := by omega
  simp only
  rw [if_pos (by simpa using hi), getD_nat, show ((0, (0, ([], []))) : OpD) = o0 from rfl]
  generalize a.getD i o0 = o
  simp only [if_pos hb]
  have hko : wainwrightlaw02_Op_kind (o.1, o.2.1, o.2.2.1, o.2.2.2) = some (kindS o) := rfl
  rw [hko, Option.bind_some]
  by_cases hk : kindS o < 2
  · have hk2 : kindS o = 0 ∨ kindS o = 1 := by rcases kind_cases o with q | q | q | q <;> omega
    obtain ⟨d1, d2⟩ := does_is h (by omega) o hk2
    have d3 := does_free (s := ((c, u), xs, es)) ht o
    rw [if_pos (by simpa using hk), d1, Option.bind_some, Option.bind_some, Option.bind_some, hw]
    exact ⟨_, d2, d3, rfl⟩
  · rw [if_neg (by simpa using hk), hw]
    exact ⟨((c, u), xs, es), h.mono (by omega) (by omega), ht, rfl⟩

theorem keeps_loop1 (a b : List OpD) (hl : a.length ≤ 200) : ∀ (m i : Nat) (s : Sl), i + m = a.length → Okay 9 i s → s.1.2 = -1 →
    ∃ s2, Okay 9 a.length s2 ∧ s2.1.2 = -1 ∧ loopO wainwrightlaw02_SlabKeeps.l1 (threeS s, a, b, (i : Int)) = some (threeS s2, b)
  | 0, i, s, e, h, ht => by
    have : i = a.length := by omega
    subst this
    refine ⟨s, h, ht, loopO_inr ?_⟩
    unfold wainwrightlaw02_SlabKeeps.l1 threeS
    obtain ⟨⟨c, u⟩, xs, es⟩ := s
    simp only
    rw [if_neg (by simp)]
  | m + 1, i, s, e, h, ht => by
    obtain ⟨s1, h1, t1, e1⟩ := keeps_step1 a b i (by omega) hl h ht
    obtain ⟨s2, h2, t2, e2⟩ := keeps_loop1 a b hl m (i + 1) s1 (by omega) h1 t1
    exact ⟨s2, h2, t2, by rw [loopO_inl e1, e2]⟩

theorem keeps_step2 (b : List OpD) (W X : List Blk) (k : Nat) (i : Nat) (hi : i < b.length) (hl : b.length ≤ 200) (hk : k ≤ 300) {s : Sl} (h : Okay 9 (k + i) s) (ht : s.1.2 = -1) (hx : s.2.1 = X) :
    ∃ s2, Okay 9 (k + (i + 1)) s2 ∧ s2.1.2 = -1 ∧ s2.2.1 = X ∧ wainwrightlaw02_SlabKeeps.l2 (threeS s, b, W, (i : Int)) = some (.inl (threeS s2, b, W, ((i + 1 : Nat) : Int))) := by
  have hw := wrap_succ (n := i) (by omega)
  unfold wainwrightlaw02_SlabKeeps.l2 threeS
  obtain ⟨⟨c, u⟩, xs, es⟩ := s
  have hb : (0 : Int) ≤ (i : Int) ∧ (i : Int) < (b.length : Int) := by omega
  simp only
  rw [if_pos (by simpa using hi), getD_nat, show ((0, (0, ([], []))) : OpD) = o0 from rfl]
  generalize b.getD i o0 = o
  simp only [if_pos hb]
  have hko : wainwrightlaw02_Op_kind (o.1, o.2.1, o.2.2.1, o.2.2.2) = some (kindS o) := rfl
  rw [hko, Option.bind_some]
  by_cases hk : kindS o = 0
  · obtain ⟨d1, d2⟩ := does_is h (by omega) o (.inl hk)
    have d3 := does_free (s := ((c, u), xs, es)) ht o
    have d4 : (doesS o ((c, u), xs, es)).1.2.1 = X := by
      unfold doesS
      rw [if_pos hk, (write_free (s := ((c, u), xs, es)) ht _ _).2]; exact hx
    rw [if_pos (by simpa using hk), d1, Option.bind_some, Option.bind_some, Option.bind_some, hw]
    exact ⟨_, d2, d3, d4, rfl⟩
  · rw [if_neg (by simpa using hk), hw]
    exact ⟨((c, u), xs, es), h.mono (by omega) (by omega), ht, hx, rfl⟩

theorem keeps_loop2 (b : List OpD) (W X : List Blk) (k : Nat) (hl : b.length ≤ 200) (hk : k ≤ 300) : ∀ (m i : Nat) (s : Sl), i + m = b.length → Okay 9 (k + i) s → s.1.2 = -1 → s.2.1 = X →
    ∃ s2, Okay 9 (k + b.length) s2 ∧ s2.1.2 = -1 ∧ s2.2.1 = X ∧ loopO wainwrightlaw02_SlabKeeps.l2 (threeS s, b, W, (i : Int)) = some (threeS s2, W)
  | 0, i, s, e, h, ht, hx => by
    have : i = b.length := by omega
    subst this
    refine ⟨s, h, ht, hx, loopO_inr ?_⟩
    unfold wainwrightlaw02_SlabKeeps.l2 threeS
    obtain ⟨⟨c, u⟩, xs, es⟩ := s
    simp only
    rw [if_neg (by simp)]
  | m + 1, i, s, e, h, ht, hx => by
    obtain ⟨s1, h1, t1, x1, e1⟩ := keeps_step2 b W X k i (by omega) hl hk h ht hx
    obtain ⟨s2, h2, t2, x2, e2⟩ := keeps_loop2 b W X k hl hk m (i + 1) s1 (by omega) h1 t1 x1
    exact ⟨s2, h2, t2, x2, by rw [loopO_inl e1, e2]⟩

theorem wainwrightlaw02_SlabKeeps_row (x0 x1 : List OpD) (w0 : wfD (.sl (.st (.pair I (.pair I (.pair .str (.sl .bool)))))) x0) (w1 : wfD (.sl (.st (.pair I (.pair I (.pair .str (.sl .bool)))))) x1)
    (hb : bulk (.sl (.st (.pair I (.pair I (.pair .str (.sl .bool)))))) x0 + bulk (.sl (.st (.pair I (.pair I (.pair .str (.sl .bool)))))) x1 ≤ 1048576) : wainwrightlaw02_SlabKeeps (x0, x1) = some true := by
  unfold wainwrightlaw02_SlabKeeps
  simp only
  rw [lives_is, Option.bind_some, if_neg (by simp), early_is, Option.bind_some, early_is, Option.bind_some]
  have hla : (x0.take 200).length ≤ 200 := by simp; omega
  have hlb : (x1.take 200).length ≤ 200 := by simp; omega
  generalize x0.take 200 = a at hla
  generalize x1.take 200 = b at hlb
  rw [new_is, Option.bind_some, Option.bind_some, Option.bind_some]
  have o1 := okay_new 9 (by omega)
  rw [show min 1000 (9 : Int).toNat = 9 from rfl]
  generalize List.replicate 9 (wholeS []) = xs at o1
  simp only
  obtain ⟨s, h, t, e⟩ := keeps_loop1 a b hla a.length 0 _ (by omega) o1 rfl
  have e' : loopO wainwrightlaw02_SlabKeeps.l1 (((0, -1), (0, -1), (0, -1), xs, [], xs, [], xs, []), a, b, 0) = some (threeS s, b) := e
  rw [e', Option.bind_some]
  unfold threeS
  obtain ⟨⟨c, u⟩, ys, es⟩ := s
  obtain ⟨f1, f2⟩ := h.flush (by omega)
  have ef := flush_free (s := ((c, u), ys, es)) t
  rw [ef] at f1 f2
  simp only at f1 f2 ⊢
  rw [f1, Option.bind_some, if_pos (show (((0 : Int) != 0)) = false from rfl), Option.bind_some, if_pos (show (((0 : Int) != 0)) = false from rfl), Option.bind_some, if_neg (show ¬ ((0 : Int) != 0) = true by decide)]
  have him := f2.image
  rw [him, Option.bind_some]
  simp only
  rw [image_nil]
  generalize imageS ys es = W at f2
  obtain ⟨s2, h2, t2, x2, e2⟩ := keeps_loop2 b W W (a.length + 1) hlb (by omega) b.length 0 _ (by omega) f2 rfl rfl
  have e2' : loopO wainwrightlaw02_SlabKeeps.l2 (((c + 1, -1), (c + 1, -1), (c + 1, -1), W, [], W, [], W, []), b, W, 0) = some (threeS s2, W) := e2
  rw [e2', Option.bind_some]
  unfold threeS
  obtain ⟨⟨c2, u2⟩, ys2, es2⟩ := s2
  simp only at t2 x2
  subst t2 x2
  simp only
  have c1 := h2.crash (evenly_one true)
  have c0 := h2.crash (evenly_one false)
  obtain ⟨g1, g2⟩ := h2.flush (by omega)
  have k1 := h2.crashed true
  have k0 := h2.crashed false
  have eg := flush_free (s := ((c2, -1), ys2, es2)) rfl
  rw [eg] at g1 g2
  have ec1 : crashS true ((c2, -1), ys2, es2) = ((c2, -1), imageS ys2 es2, []) := rfl
  have ec0 : crashS false ((c2, -1), ys2, es2) = ((c2, -1), ys2, []) := rfl
  rw [ec1] at c1 k1
  rw [ec0] at c0 k0
  have len : (imageS ys2 es2).length ≤ 1000 := by rw [image_len]; have := h2.firm; simp only at this; omega
  have len2 : ys2.length ≤ 1000 := by have := h2.firm; simp only at this; omega
  rw [c1, Option.bind_some, c0, Option.bind_some]
  simp only
  rw [g1, Option.bind_some]
  simp only
  rw [if_pos (by rfl), k1.image, Option.bind_some, g2.image, Option.bind_some]
  simp only
  rw [image_nil, texts_is _ len, Option.bind_some, if_pos (by rfl), k0.image, Option.bind_some]
  simp only
  rw [image_nil, texts_is _ len2, Option.bind_some, if_pos (by rfl), k1.loose_is, Option.bind_some]
  rfl
end Go.Proofs.Ytejeollidbbknaa.Abs
