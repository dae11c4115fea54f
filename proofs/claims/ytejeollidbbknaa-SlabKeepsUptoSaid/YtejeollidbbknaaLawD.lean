/- Slabs: the laws. -/
import Derived.Test.YtejeollidbbknaaLawC
namespace Go.Proofs.Ytejeollidbbknaa.Abs
open Go
set_option linter.unusedVariables false
attribute [-simp] List.getD_eq_getElem?_getD

theorem texts_is (l : List Blk) (h : l.length ≤ 1000) : wainwrightlaw02_texts (l, l) = some true := by
  have := loop_run (f := wainwrightlaw02_texts.l1) (fun i => (l, l, (i : Int))) (r := .inl ()) (n := l.length) (fun i hi => by
    unfold wainwrightlaw02_texts.l1
    simp only
    rw [if_pos (by simpa using hi), if_pos (by omega), if_pos (by omega), getD_nat, wrap_succ (by omega)]
    simp) (by unfold wainwrightlaw02_texts.l1; simp)
  unfold wainwrightlaw02_texts
  simp only
  rw [if_neg (by simp), show (l, l, (0 : Int)) = (l, l, ((0 : Nat) : Int)) from rfl, this, Option.bind_some]

theorem read_is (xs : List Blk) (es : Loo) (c u : Int) (i : Int) : slab_Slab_Read ((xs, es, c, u), i) = some (if 0 ≤ i ∧ i < (xs.length : Int) then (mg es i).getD (xs.getD i.toNat []) else []) := by
  unfold slab_Slab_Read
  have ht : slab_Slab_there ((xs, es, c, u), i) = some (decide (0 ≤ i ∧ i < (xs.length : Int))) := by
    unfold slab_Slab_there
    simp only
    by_cases hi : i ≥ 0
    · rw [if_pos (by simpa using hi)]
      congr 1
      exact decide_eq_decide.2 ⟨fun q => ⟨hi, q⟩, fun q => q.2⟩
    · rw [if_neg (by simpa using hi), decide_eq_false (by omega)]
  simp only
  rw [ht, Option.bind_some]
  by_cases hi : 0 ≤ i ∧ i < (xs.length : Int)
  · rw [decide_eq_true hi, if_neg (by simp), if_pos hi]
    change (if (mg es i).isSome = true then some ((mg es i).getD []) else _) = _
    cases hm : mg es i with
    | none => rw [if_neg (by simp), if_pos hi]; rfl
    | some v => rw [if_pos (by rfl), if_pos hi]; rfl
  · rw [decide_eq_false hi, if_pos (by rfl), if_neg hi]

theorem okay_load (image : List Blk) : Okay (firmS image).length 0 ((0, -1), firmS image, []) :=
  ⟨rfl, ⟨by unfold firmS; simp; omega, by omega⟩, by simp, (fun e he => by cases he), by simp, by simp⟩
theorem okay_new (k : Nat) (hk : k ≤ 1000) : Okay k 0 ((0, -1), List.replicate k (wholeS []), []) :=
  ⟨by simp, ⟨hk, by omega⟩, by simp, (fun e he => by cases he), by simp, by simp⟩

theorem wainwrightlaw02_SlabLoads_row (x0 : List Blk) (x1 : Int) (w0 : wfD (.sl .str) x0) (w1 : wfD I x1) (hb : bulk (.sl .str) x0 + bulk I x1 ≤ 1048576) : wainwrightlaw02_SlabLoads (x0, x1) = some true := by
  unfold wainwrightlaw02_SlabLoads
  simp only
  rw [lives_is, Option.bind_some, if_neg (by simp), load_is, Option.bind_some, refLoad_is, Option.bind_some]
  have o1 := okay_load x0
  have o2 := o1.crashed false
  have hl : (firmS x0).length ≤ 1000 := o1.room.1
  have hcr : crashS false ((0, -1), firmS x0, []) = ((0, -1), firmS x0, []) := rfl
  have hk : min 1000 x1.toNat ≤ 1000 := by omega
  have o3 := okay_new _ hk
  simp only
  rw [o1.crash evenly_nil, Option.bind_some, hcr]
  simp only [clamp]
  rw [new_is, Option.bind_some, refWhole_is, Option.bind_some]
  simp only
  rw [o1.image, Option.bind_some, image_nil]
  simp only
  rw [texts_is _ hl, Option.bind_some, if_pos (by rfl)]
  unfold slab_Slab_Size
  simp only [Option.bind_some]
  rw [if_pos (by simp), if_pos (by simp)]
  have hloose : slab_Slab_Loose ((0, -1), List.replicate (min 1000 x1.toNat) (wholeS []), []) = some (((0, -1), List.replicate (min 1000 x1.toNat) (wholeS []), []), []) := o3.loose_is
  have hend : (slab_Slab_Read ((List.replicate (min 1000 x1.toNat) (wholeS []), [], 0, -1), ((min 1000 x1.toNat : Nat) : Int))) = some [] := by
    rw [read_is, if_neg (by simp)]
  by_cases hz : min 1000 x1.toNat = 0
  · rw [if_neg (by rw [hz]; simp), hend, Option.bind_some, if_pos (by rfl), hloose, Option.bind_some]
    rfl
  · rw [if_pos (by rw [beq_eq_false_iff_ne]; omega), wrap64 (by omega) (by omega), read_is, if_pos (by simp; omega), mg_nil, Option.bind_some]
    have e : (List.replicate (min 1000 x1.toNat) (wholeS [])).getD (((min 1000 x1.toNat : Nat) : Int) - 1).toNat [] = wholeS [] := by
      rw [getD_lt (by simp; omega)]; simp
    rw [if_pos (by simp only [Option.getD_none, e, beq_self_eq_true]), hend, Option.bind_some, if_pos (by rfl), hloose, Option.bind_some]
    rfl

/-! ### Steps -/

def o0 : OpD := (0, (0, ([], [])))
def doesS (o : OpD) (s : Sl) : Sl × Int := if kindS o = 0 then writeS s o.2.1 o.2.2.1 else flushS s

theorem does_is {n m : Nat} {s : Sl} (h : Okay n m s) (hm : m < 100000) (o : OpD) (hk : kindS o = 0 ∨ kindS o = 1) : wainwrightlaw02_does_1 (s, o.1, o.2.1, o.2.2.1, o.2.2.2) = some (doesS o s) ∧ Okay n (m + 1) (doesS o s).1 := by
  have hko : wainwrightlaw02_Op_kind (o.1, o.2.1, o.2.2.1, o.2.2.2) = some (kindS o) := rfl
  unfold doesS
  obtain ⟨⟨c, u⟩, xs, es⟩ := s
  unfold wainwrightlaw02_does_1
  simp only
  rw [hko, Option.bind_some]
  rcases hk with hk | hk
  · obtain ⟨h1, h2⟩ := h.write hm o.2.1 o.2.2.1
    rw [if_pos hk]
    refine ⟨?_, h2⟩
    rw [hk, if_pos (show ((0 : Int) == 0) = true by decide), h1, Option.bind_some]
  · obtain ⟨h1, h2⟩ := h.flush hm
    rw [if_neg (show ¬ kindS o = 0 by rw [hk]; decide)]
    refine ⟨?_, h2⟩
    rw [hk]
    rw [if_neg (show ¬ ((1 : Int) == 0) = true by decide), if_pos (show ((1 : Int) == 1) = true by decide), h1, Option.bind_some]

theorem early_is (l : List OpD) : wainwrightlaw02_early l = some (l.take 200) := by
  unfold wainwrightlaw02_early
  by_cases h : 200 < (l.length : Int)
  · rw [if_pos h, if_pos (by omega)]; rfl
  · rw [if_neg h, if_pos (by omega)]
    rw [Int.toNat_natCast, List.take_length, List.take_of_length_le (by omega)]

/-! ### A slab that stands still -/

/-- How many calls are still let be. -/
def tillS (n c : Int) : Int := if c < n then n - c else 0

theorem stops_step (script : List OpD) (n : Int) (hn : 0 ≤ n ∧ n < 60) (i : Nat) (hi : i < script.length) (hl : script.length ≤ 200) {s : Sl} (h : Okay 9 i s) (ht : s.1.2 = tillS n s.1.1) :
    ∃ s2, Okay 9 (i + 1) s2 ∧ s2.1.2 = tillS n s2.1.1 ∧ wainwrightlaw02_SlabStops.l1 (s, script, n, (i : Int)) = some (.inl (s2, script, n, ((i + 1 : Nat) : Int))) := by
  have hw := wrap_succ (n := i) (by omega)
  have hc := h.calls
  unfold wainwrightlaw02_SlabStops.l1
  obtain ⟨⟨c, u⟩, xs, es⟩ := s
  simp only at ht hc ⊢
  rw [if_pos (by simpa using hi), if_pos (by omega), getD_nat, show ((0, (0, ([], []))) : OpD) = o0 from rfl]
  generalize script.getD i o0 = o
  have hko : wainwrightlaw02_Op_kind (o.1, o.2.1, o.2.2.1, o.2.2.2) = some (kindS o) := rfl
  rw [hko, Option.bind_some]
  by_cases hk : kindS o > 1
  · rw [if_pos (by simpa using hk), hw]
    exact ⟨_, h.mono (by omega) (by omega), ht, rfl⟩
  · have hk2 : kindS o = 0 ∨ kindS o = 1 := by rcases kind_cases o with q | q | q | q <;> omega
    obtain ⟨d1, d2⟩ := does_is h (by omega) o hk2
    have hwas := h.image
    rw [if_neg (by simpa using hk), hwas, Option.bind_some]
    simp only
    unfold slab_Slab_Calls
    rw [Option.bind_some, if_pos (show (0 : Int) ≤ (i : Int) ∧ (i : Int) < (script.length : Int) by omega), d1, Option.bind_some]
    have hfl := h.firm
    by_cases hcn : c ≥ n
    · have hu : u = 0 := by rw [ht]; unfold tillS; rw [if_neg (by omega)]
      have hcall : callS ((c, u), xs, es) = (((c + 1, u), xs, es), 14) := by unfold callS; rw [if_pos hu]
      have hd : doesS o ((c, u), xs, es) = (((c + 1, u), xs, es), 14) := by
        unfold doesS writeS flushS
        rw [hcall]
        split <;> rfl
      rw [hd] at d2 ⊢
      refine ⟨_, d2, ?_, ?_⟩
      · simp only; rw [ht]; unfold tillS; rw [if_neg (by omega), if_neg (by omega)]
      · simp only
        rw [decide_eq_true hcn, if_pos (by rfl), Option.bind_some, wrap64 (by omega) (by omega), if_pos (by simp), if_pos (by rfl)]
        rw [d2.image, Option.bind_some]
        simp only
        rw [texts_is _ (by rw [image_len]; simp only at hfl; omega), Option.bind_some, if_neg (by simp), hw]
    · have hu : u = n - c := by rw [ht]; unfold tillS; rw [if_pos (by omega)]
      have hcall : callS ((c, u), xs, es) = (((c + 1, u - 1), xs, es), 0) := by unfold callS; rw [if_neg (by simp only; omega), if_pos (by simp only; omega)]
      have hd : (doesS o ((c, u), xs, es)).1.1 = (c + 1, u - 1) ∧ ((doesS o ((c, u), xs, es)).2 == 14) = false := by
        unfold doesS writeS flushS
        rw [hcall]
        split
        · rw [if_neg (by simp)]
          split <;> exact ⟨rfl, rfl⟩
        · rw [if_pos (by rfl)]; exact ⟨rfl, rfl⟩
      generalize doesS o ((c, u), xs, es) = q at hd d2
      obtain ⟨⟨cu, ys, fs⟩, e⟩ := q
      obtain ⟨hd1, hd2⟩ := hd
      simp only at hd1 hd2 d2 ⊢
      subst hd1
      refine ⟨_, d2, ?_, ?_⟩
      · simp only; rw [hu]; unfold tillS
        by_cases hq : c + 1 < n
        · rw [if_pos hq]; omega
        · rw [if_neg hq]; omega
      · rw [hd2, decide_eq_false hcn, if_pos (by rfl), Option.bind_some, wrap64 (by omega) (by omega), if_pos (by simp), if_neg (by simp), hw]

theorem stops_loop (script : List OpD) (n : Int) (hn : 0 ≤ n ∧ n < 60) (hl : script.length ≤ 200) : ∀ (m i : Nat) (s : Sl), i + m = script.length → Okay 9 i s → s.1.2 = tillS n s.1.1 →
    ∃ s2, Okay 9 script.length s2 ∧ loopO wainwrightlaw02_SlabStops.l1 (s, script, n, (i : Int)) = some (.inl s2)
  | 0, i, s, e, h, ht => by
    have : i = script.length := by omega
    subst this
    refine ⟨s, h, loopO_inr ?_⟩
    unfold wainwrightlaw02_SlabStops.l1
    obtain ⟨⟨c, u⟩, xs, es⟩ := s
    simp only
    rw [if_neg (by simp)]
  | m + 1, i, s, e, h, ht => by
    obtain ⟨s1, h1, t1, e1⟩ := stops_step script n hn i (by omega) hl h ht
    obtain ⟨s2, h2, e2⟩ := stops_loop script n hn hl m (i + 1) s1 (by omega) h1 t1
    exact ⟨s2, h2, by rw [loopO_inl e1, e2]⟩

theorem wainwrightlaw02_SlabStops_row (x0 : List OpD) (x1 : Int) (w0 : wfD (.sl (.st (.pair I (.pair I (.pair .str (.sl .bool)))))) x0) (w1 : wfD I x1)
    (hb : bulk (.sl (.st (.pair I (.pair I (.pair .str (.sl .bool)))))) x0 + bulk I x1 ≤ 1048576) : wainwrightlaw02_SlabStops (x0, x1) = some true := by
  unfold wainwrightlaw02_SlabStops
  simp only
  rw [lives_is, Option.bind_some, if_neg (by simp), early_is, Option.bind_some]
  have hlen : (x0.take 200).length ≤ 200 := by simp; omega
  generalize x0.take 200 = script at hlen
  have hn : 0 ≤ IntKind.i64.wrap (Int.tmod (IntKind.u64.wrap x1) 60) ∧ IntKind.i64.wrap (Int.tmod (IntKind.u64.wrap x1) 60) < 60 := by
    have h0 : 0 ≤ IntKind.u64.wrap x1 := by
      simp only [IntKind.wrap]
      exact Int.emod_nonneg _ (by decide)
    generalize IntKind.u64.wrap x1 = k at h0
    rw [Int.tmod_eq_emod_of_nonneg h0, wrap64 (by omega) (by omega)]
    omega
  generalize IntKind.i64.wrap (Int.tmod (IntKind.u64.wrap x1) 60) = n at hn
  rw [new_is, Option.bind_some]
  have o1 := okay_new 9 (by omega)
  rw [show min 1000 (9 : Int).toNat = 9 from rfl]
  generalize List.replicate 9 (wholeS []) = xs at o1
  simp only
  have hstop : slab_Slab_Stop_1 (((0, -1), xs, []), n) = some ((0, n), xs, []) := by
    unfold slab_Slab_Stop_1
    simp only
    first
      | (rw [if_pos (by simpa using hn.1), Option.bind_some]; simp only; rw [if_neg (by simp; omega)])
      | (rw [if_neg (by simp; omega)]; simp; omega)
  rw [hstop, Option.bind_some]
  simp only
  have o2 : Okay 9 0 ((0, n), xs, []) := ⟨o1.firm, o1.room, by simp, (fun e he => by cases he), by simp, by simp only; omega⟩
  obtain ⟨s2, h2, e2⟩ := stops_loop script n hn hlen script.length 0 _ (by omega) o2 (by simp only; unfold tillS; split <;> omega)
  have e2b : loopO wainwrightlaw02_SlabStops.l1 (((0, n), xs, []), script, n, 0) = some (.inl s2) := e2
  rw [e2b, Option.bind_some]
  obtain ⟨⟨c, u⟩, ys, es⟩ := s2
  simp only
  rw [h2.crash evenly_nil, Option.bind_some]
  have h3 := h2.crashed false
  have hf := h2.firm
  have hcc := h2.calls
  simp only at hf hcc
  have ecr : crashS false ((c, u), ys, es) = ((c, -1), ys, []) := rfl
  rw [ecr] at h3 ⊢
  simp only
  obtain ⟨w1, w2⟩ := h3.write (by omega) 0 [120]
  have ew : writeS ((c, -1), ys, []) 0 [120] = (((c + 1, -1), ys, mp [] 0 (wholeS [120])), 0) := by
    have hcall : callS ((c, -1), ys, []) = (((c + 1, -1), ys, []), 0) := by unfold callS; rw [if_neg (by simp), if_neg (by simp)]
    unfold writeS
    rw [hcall, if_neg (by simp), if_pos (by simp only [hf]; simp)]
  rw [w1, ew, Option.bind_some]
  rw [ew] at w2
  simp only at w2 ⊢
  rw [if_pos (by rfl)]
  obtain ⟨f1, f2⟩ := w2.flush (by omega)
  have ef : flushS ((c + 1, -1), ys, mp [] 0 (wholeS [120])) = (((c + 1 + 1, -1), imageS ys (mp [] 0 (wholeS [120])), []), 0) := by
    have hcall : callS ((c + 1, -1), ys, mp [] 0 (wholeS [120])) = (((c + 1 + 1, -1), ys, mp [] 0 (wholeS [120])), 0) := by unfold callS; rw [if_neg (by simp), if_neg (by simp)]
    unfold flushS
    rw [hcall, if_pos (by rfl)]
  rw [f1, ef, Option.bind_some]
  simp only
  rw [if_pos (by rfl), read_is, if_pos (by rw [image_len, hf]; simp), mg_nil, Option.bind_some, refWhole_is, Option.bind_some]
  have e9 := image_at ys (mp [] 0 (wholeS [120])) 0 (by omega)
  rw [show (0 : Int).toNat = 0 from rfl]
  simp only [Option.getD_none]
  rw [e9]
  have em : mg (mp [] 0 (wholeS [120])) ((0 : Nat) : Int) = some (wholeS [120]) := rfl
  rw [em]
  simp
end Go.Proofs.Ytejeollidbbknaa.Abs
