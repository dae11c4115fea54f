/- A law's row: its arguments opened, its call, and what the statement wants behind it. -/
import Derived.Test.YtlbammfnkphajaaGreatDoorAbsOpen
import Derived.ProofKit
import Derived.JoinedCond
namespace Go.Proofs.YtlbammfnkphajaaGreatDoor.Abs
open Go Go.ChangeShapes Go.WideShapes Go.WideElems Go.RowKit

/-- What was there stays. -/
structure Fresh (W W' : World) : Prop where
  os : W'.os = W.os
  output : W'.output = W.output
  size : W.heap.size ≤ W'.heap.size
  frame : ∀ b, b < W.heap.size → W'.heap[b]? = W.heap[b]?

abbrev noGs : Gs := fun _ => none
abbrev noF : Nat → Prop := fun _ => False

theorem not_avoid (b : Nat) : ¬ avoid noF noGs b := by
  rintro (h | ⟨j, g, h, _⟩)
  · exact h
  · cases h

theorem inv_none (W : World) : Inv noF W noGs [] where
  dom j g h := by cases h
  live j hj := by cases hj
  there j hj := by cases hj
  inj i j g h b hi := by cases hi
  free j g b h := by cases h
  old b h := h.elim

def kTrue : List AV → List AO → Option Unit
  | [.bool true], [] => some ()
  | _, _ => none

theorem law_calls {P : Program} {fid : Nat} {F : Fun} (hs : FnSound P fid F) {args : List AV} (e : F Unit args [] kTrue = some ()) {W : World} {vs : Array Value}
    (h : RepL (avoid noF noGs) W 0 noGs args vs.toList) : Calls P fid vs W fun e W' => e = .returned (.bool true) ∧ Fresh W W' := by
  refine (hs Unit args [] kTrue () e noF W noGs vs (inv_none W) h).mono ?_
  rintro ex W' ⟨res, ob', G', v, rfl, hk, hr, _, ht, _⟩
  unfold kTrue at hk
  split at hk
  · have hr' : Rep _ _ _ _ (.bool true) v := hr
    generalize hx : AV.bool true = x at hr'
    cases hr' <;> cases hx
    exact ⟨rfl, ht.os, ht.output, ht.size, fun b hb => ht.frame b hb fun h => not_avoid b (.inr h)⟩
  · cases hk

theorem lend_self {ob : List AO} : ∀ (T : Ty) (x : T.D) (r : List AV) (Z : List Nat), lend ob T (cellsAV T x ++ r) Z = some (x, r, Z)
  | .int k, n, r, Z => by simp [lend, cellsAV]
  | .bool, b, r, Z => by simp [lend, cellsAV]
  | .str, s, r, Z => by simp [lend, cellsAV]
  | .sl e, xs, r, Z => by simp [lend, cellsAV, castD]
  | .pair a b, x, r, Z => by simp [lend, cellsAV, List.append_assoc, lend_self a, lend_self b]
  | .st a, x, r, Z => by simp [lend, cellsAV, lend_self a]
  | .unit, x, r, Z => by simp [lend, cellsAV]
  | .ptr e, x, r, Z => by simp [lend, cellsAV, castD]
  | .map K V, x, r, Z => by simp [lend, cellsAV, castD]
  | .nsl e, xs, r, Z => by simp [lend, cellsAV, castD]

theorem lendV_self {ob : List AO} (T : Ty) (x : T.D) (Z : List Nat) : lendV ob T (toAV T x) Z = some (x, Z) := by
  have := lend_self (ob := ob) T x [] Z
  rw [List.append_nil] at this
  cases T <;> simp_all [lendV, toAV, cellsAV, Ty.isAgg, AV.isAgg, AV.cells]

section
variable {H : Type} {enc : TypeId × Value → H} {P : Program} {TT : Nat → TI}

/-- An argument opened. -/
theorem open_arg (tt : TTok P TT) {W : World} {r : Reach} {b0 : Nat} (T : Ty) {t : TypeId} {v : Value} {d : DataW H} {ps : List MemPlace} {n : Nat} (hc : chk TT T [(t, 0)] 0 = true) (hval : Value.okWide P W r b0 t v)
    (h : DataW.Trod enc P W 0 (fun _ => true) true t v d ps) : ∃ x : T.D, Reads T x [d] ∧ Rep (avoid noF noGs) W n noGs (toAV T x) v := by
  obtain ⟨fuel, hf⟩ := h
  have main : v.cells.toList.length = P.cellsOf t → ∃ x : T.D, Reads T x [d] ∧ ∀ j, j < T.size → Rep (avoid noF noGs) W n noGs ((cellsAV T x).getD j .dead) (v.cells.toList.getD (0 + j) undef) := by
    intro hl
    exact open_fields tt (fun b => not_avoid b) T [(t, 0)] 0 fuel v.cells.toList [(d, ps)] hc rfl (by
      intro i f hf2
      cases i with
      | zero =>
        simp only [List.getElem?_cons_zero, Option.some.injEq] at hf2
        subst hf2
        simp only [List.drop_zero]
        rw [List.take_of_length_le (by omega)]
        exact hf
      | succ i => simp at hf2)
  have flat : (∀ cs, v ≠ .agg cs) → (TT t).kind ≠ .other → (TT t).size = 1 → (∀ x : T.D, cellsAV T x = [toAV T x]) → T.size = 1 → ∃ x : T.D, Reads T x [d] ∧ Rep (avoid noF noGs) W n noGs (toAV T x) v := by
    intro hna hk hsz hcell hT
    have hv : v.cells = #[v] := by
      cases v <;> first | rfl | exact absurd rfl (hna _)
    obtain ⟨x, h1, h2⟩ := main (by rw [hv, tt_cells tt hk, hsz]; rfl)
    refine ⟨x, h1, ?_⟩
    have := h2 0 (by omega)
    rw [hcell x, hv] at this
    exact this
  cases T with
  | int k =>
    simp only [chk, Bool.and_eq_true, decide_eq_true_eq] at hc
    obtain ⟨⟨h1, h2⟩, _⟩ := hc
    split at h1
    · rename_i k' hk
      obtain ⟨m, rfl⟩ := okWide_int (tt_int tt hk) hval
      exact flat (fun _ h => by cases h) (by rw [hk]; simp) h2 (fun _ => rfl) rfl
    · cases h1
  | bool =>
    simp only [chk, Bool.and_eq_true, decide_eq_true_eq] at hc
    obtain ⟨⟨h1, h2⟩, _⟩ := hc
    split at h1
    · rename_i hk
      obtain ⟨m, rfl⟩ := okWide_bool (tt_bool tt hk) hval
      exact flat (fun _ h => by cases h) (by rw [hk]; simp) h2 (fun _ => rfl) rfl
    · cases h1
  | str =>
    simp only [chk, Bool.and_eq_true, decide_eq_true_eq] at hc
    obtain ⟨⟨h1, h2⟩, _⟩ := hc
    split at h1
    · rename_i hk
      obtain ⟨m, rfl⟩ := okWide_string (tt_str tt hk) hval
      exact flat (fun _ h => by cases h) (by rw [hk]; simp) h2 (fun _ => rfl) rfl
    · cases h1
  | sl e =>
    simp only [chk, Bool.and_eq_true, decide_eq_true_eq] at hc
    obtain ⟨⟨h1, h2⟩, _⟩ := hc
    split at h1
    · rename_i u hk
      obtain ⟨a, l, c, rfl⟩ := okWide_slice (tt_sl tt hk) hval
      exact flat (fun _ h => by cases h) (by rw [hk]; simp) h2 (fun _ => rfl) rfl
    · cases h1
  | st a =>
    have hc' := hc
    simp only [chk, Bool.and_eq_true, decide_eq_true_eq] at hc'
    obtain ⟨⟨h1, h2⟩, _⟩ := hc'
    split at h1
    · rename_i fs hk
      obtain ⟨fields, hu, _⟩ := tt_st tt hk
      obtain ⟨cs, rfl, hsz⟩ := okWide_struct hu hval
      obtain ⟨x, h3, h4⟩ := main (by simpa [Value.cells] using hsz)
      refine ⟨x, h3, ?_⟩
      have hlen : (cellsAV a x).length = cs.size := by rw [cellsAV_length, hsz, tt_cells tt (by rw [hk]; simp), h2]
      refine .agg (cellsAV a x) cs hlen fun i hi => ?_
      have := h4 i (by rw [cellsAV_length] at hi; exact hi)
      simp only [Nat.zero_add, Value.cells] at this
      have e1 : cs.toList.getD i undef = cs.getD i undef := by simp [List.getD, Array.getD_eq_getD_getElem?]
      rw [e1] at this
      exact this
    · rename_i k u hk
      have hu := tt_arr tt hk
      obtain ⟨cs, rfl, hsz⟩ : ∃ cs, v = .agg cs ∧ cs.size = P.cellsOf t := by
        simp only [Value.okWide, hu] at hval
        obtain ⟨cs, h1, h2, _⟩ := hval
        exact ⟨cs, h1, h2⟩
      obtain ⟨x, h3, h4⟩ := main (by simpa [Value.cells] using hsz)
      refine ⟨x, h3, ?_⟩
      have hlen : (cellsAV a x).length = cs.size := by rw [cellsAV_length, hsz, tt_cells tt (by rw [hk]; simp), h2]
      refine .agg (cellsAV a x) cs hlen fun i hi => ?_
      have := h4 i (by rw [cellsAV_length] at hi; exact hi)
      simp only [Nat.zero_add, Value.cells] at this
      have e1 : cs.toList.getD i undef = cs.getD i undef := by simp [List.getD, Array.getD_eq_getD_getElem?]
      rw [e1] at this
      exact this
    · cases h1
  | pair a b =>
    simp only [chk, Bool.and_eq_true] at hc
    cases b <;> simp [chk] at hc
  | unit => simp [chk] at hc
  | ptr e => simp [chk] at hc
  | map K V => simp [chk] at hc
  | nsl e => simp [chk] at hc

theorem trodAll_stays (hl : laidOutB P = true) {W W' : World} {sp : Nat → Bool} : ∀ {ts : List TypeId} {vs : List Value} {ds : List (DataW H)} {ps : List MemPlace},
    (∀ t ∈ ts, P.readableRec t = true ∧ t < P.types.size) → DataW.TrodAll enc P W 0 (fun _ => true) true ts vs ds ps → (∀ p ∈ ps, W.sameAt W' p) → (∀ p ∈ ps, sp p.block = true) →
    DataW.TrodAll enc P W' 0 sp true ts vs ds ps
  | [], _, _, _, _, h, _, _ => by
    obtain ⟨rfl, rfl, rfl⟩ := trodAll_nil h
    rfl
  | t :: ts, _, _, _, hr, h, hs, hsp => by
    obtain ⟨v, vs1, d, ds1, a, b, rfl, rfl, rfl, h1, h2⟩ := trodAll_cons h
    exact ⟨a, b, Trod_stays hl (hr t List.mem_cons_self).1 (hr t List.mem_cons_self).2 h1 (fun p hp => hs p (List.mem_append_left _ hp)) (fun p hp => hsp p (List.mem_append_left _ hp)),
      trodAll_stays hl (fun u hu => hr u (List.mem_cons_of_mem _ hu)) h2 (fun p hp => hs p (List.mem_append_right _ hp)) (fun p hp => hsp p (List.mem_append_right _ hp)), rfl⟩

theorem Fresh.same {W W' : World} (h : Fresh W W') {p : MemPlace} (hp : p.block < W.heap.size) : W.sameAt W' p := by
  cases p with
  | cell b off => exact cell_block (h.frame b hp)
  | map b => exact h.frame b hp

theorem Fresh.kept {W W' : World} (h : Fresh W W') (may : MemPlace → Prop) : W.keptBut W' may := by
  refine ⟨h.os, h.output, fun i hi => ?_⟩
  have := h.frame i hi
  rw [this]
  cases W.heap[i]? with
  | none => rfl
  | some o =>
    cases o with
    | cells c t fr => exact ⟨rfl, rfl, rfl, fun _ _ => rfl⟩
    | map es clock => exact .inr ⟨rfl, rfl⟩
    | _ => rfl

/-- What a law's statement wants of the call's end. -/
theorem law_post {f : Func} {s : ChangeSpec} {apart fresh handsOn again : Bool} {W W' : World} {args : Array Value} {ds : List (DataW H)} {before : List MemPlace} {tb : TypeId}
    (hl : laidOutB P = true) (hr : ∀ t ∈ f.params.toList, P.readableRec t = true ∧ t < P.types.size) (hrt : f.resultTypes = #[tb]) (hub : P.underlying tb = some .bool) (hsv : s.vars = [])
    (hres : (s.fn H (ds ++ [])).results = [.lit (.bool true)]) (hargs : (s.fn H (ds ++ [])).args = ds) (hvars : (s.fn H (ds ++ [])).vars = [])
    (hW : DataW.Whole enc P f.params.toList s.vars apart W args.toList ds [] before) (fr : Fresh W W') : s.post enc P f apart fresh handsOn again W args (.bool true) W' := by
  have hlt := hW.lt
  obtain ⟨p, q, hA, hV, hpq, hz, hn⟩ := id hW
  rw [hsv] at hV
  have hq : q = [] := hV
  subst hq
  rw [List.append_nil] at hpq
  subst hpq
  have hone : f.resultTypes.size = 1 := by rw [hrt]; rfl
  have hsame : ∀ p ∈ before, W.sameAt W' p := fun p hp => fr.same (hlt p hp)
  have hargs' : ∀ sp : Nat → Bool, (∀ p ∈ before, sp p.block = true) → DataW.TrodAll enc P W' 0 sp true f.params.toList args.toList (s.fn H (ds ++ [])).args before := fun sp hsp => by
    rw [hargs]; exact trodAll_stays hl hr hA hsame hsp
  have hres' : ∀ (b : Nat) (sp : Nat → Bool) (hd : Bool), DataW.TrodAll enc P W' b sp hd f.resultTypes.toList ((Value.bool true).resultList f.resultTypes.size) (s.fn H (ds ++ [])).results [] := fun b sp hd => by
    rw [hres, hone, hrt]
    exact trodAll_mk1 (shut_bool hub true)
  have hvars' : ∀ sp : Nat → Bool, DataW.TrodVars enc P W' sp s.vars (s.fn H (ds ++ [])).vars [] := fun sp => by
    rw [hvars, hsv]; rfl
  have hold : ∀ p ∈ before, (fun b => decide (b < W.heap.size)) p.block = true := fun p hp => by simpa using hlt p hp
  refine ⟨ds, [], before, [], before, [], hW, hres' _ _ _, hargs' _ hold, hvars' _, World.keptBut_mono (fun p hp => ⟨hp, .inr (.inl hp)⟩) (fr.kept (· ∈ before)), fun _ => ?_⟩
  refine ⟨ok_one hrt rfl (okWide_bool_mk hub true), _, _, ([] ++ before) ++ [], ⟨[] ++ before, [], trodAll_append (hargs' _ (fun _ _ => rfl)) (hres' _ _ _), hvars' _, rfl, ?_, ?_⟩, ?_⟩
  · intro b off hp
    have hp' : MemPlace.cell b off ∈ before := by simpa using hp
    rw [frozen_block (fr.frame b (hlt _ hp'))]
    exact hz b off hp'
  · intro ha
    simpa using hn ha
  · intro p hp _
    simpa using hp
end
end Go.Proofs.YtlbammfnkphajaaGreatDoor.Abs
