/- Functions some of whose results lie in cells: these are loaded when the body has ended. -/
import Derived.Test.YtlbammfnkphajaaGreatDoorAbsFn
namespace Go.Proofs.YtlbammfnkphajaaGreatDoor.Abs
open Go
set_option linter.unusedVariables false

section
variable {F : Nat → Prop} {P : Program} {TT : Nat → TI} {ρ : Type} {r : ρ}

/-- The results in cells (the address's slot, the type), loaded behind the other slots. -/
noncomputable def resK (TT : Nat → TI) : List (Nat × Nat) → St → (St → Option ρ) → Option ρ
  | [], st, k => k st
  | c :: cs, st, k => loadK TT c.2 (st.sl.getD c.1 .dead) st.ob fun v => resK TT cs ⟨st.sl ++ [v], st.ob⟩ k

noncomputable def absFnR (TT : Nat → TI) (N : Nat) (cells : List (Nat × Nat)) (ins : Spec) (outs : List Spec) (c : Code) (x : Ann) (a : ins.D) : Option (OutD outs) :=
  absCode TT c x (ins.init N a) (fun st => resK TT cells st (outInj outs)) (fun _ _ => none) (fun st => resK TT cells st (outInj outs))

def resOk (N : Nat) (cells : List (Nat × Nat)) : Option ResultVar → Option Nat → Bool
  | some (.tmp t), some s => (t == s) && decide (t < N)
  | some (.cell a t), some s => decide (N ≤ s) && (cells[s - N]? == some (a, t))
  | _, _ => false

theorem S.size {np : Nat} {w0 : World} {G0 : Gs} {N : Nat} {st : St} {a : Act} {w : World} (h : S F np w0 G0 N st a w) : a.tmps.size = N := by
  obtain ⟨G, _, hsl, _, _, hN⟩ := h
  rw [← hsl.1, hN]

theorem resK_sound (tt : TTok P TT) {np : Nat} {w0 : World} {G0 : Gs} {N : Nat} {k : St → Option ρ} {w : World} : ∀ {cells : List (Nat × Nat)} {M : Nat} {st : St} {a : Act}, (∀ c ∈ cells, decide (c.1 < N) = true) → S F np w0 G0 M st a w → resK TT cells st k = some r → N ≤ M →
    ∃ (st2 : St) (zs : List Value), zs.length = cells.length ∧ (∀ i, i < cells.length → (Instr.loadAt (cells.getD i (0, 0)).2 (a.tmps.getD (cells.getD i (0, 0)).1 undef)).run P w = .ok (zs.getD i undef) w) ∧ k st2 = some r ∧
      S F np w0 G0 (M + cells.length) st2 { a with tmps := a.tmps ++ zs.toArray } w
  | [], M, st, a, _, hS, e, _ => ⟨st, [], rfl, (fun i hi => by cases hi), e, by simpa using hS⟩
  | c :: cs, M, st, a, hc, hS, e, hM => by
    have hsz := hS.size
    obtain ⟨G, inv, hsl, htr, hdf, hN⟩ := hS
    have hc1 : c.1 < N := by simpa using hc c List.mem_cons_self
    rw [resK] at e
    obtain ⟨v, z, h1, h2, h3⟩ := loadK_sound tt inv e (hsl.eval (a := a) c.1)
    have hS2 : S F np w0 G0 (M + 1) ⟨st.sl ++ [v], st.ob⟩ { a with tmps := a.tmps.push z } w := by
      refine ⟨G, inv, ⟨by simp [hsl.1], fun i hi => ?_⟩, htr, hdf, by simp [hN]⟩
      simp only [List.length_append, List.length_singleton] at hi
      by_cases hlt : i < st.sl.length
      · have e1 : (st.sl ++ [v]).getD i .dead = st.sl.getD i .dead := by simp [List.getD, List.getElem?_append, hlt]
        have e2 : (a.tmps.push z).getD i undef = a.tmps.getD i undef := by
          have h1 : i < a.tmps.size := by rw [← hsl.1]; exact hlt
          have h2 : i < a.tmps.size + 1 := by omega
          simp [Array.getD, h1, h2, Array.getElem_push]
        rw [e1]
        show Rep _ _ _ _ _ ((a.tmps.push z).getD i undef)
        rw [e2]
        exact hsl.2 i hlt
      · have hi2 : i = st.sl.length := by omega
        subst hi2
        have e1 : (st.sl ++ [v]).getD st.sl.length .dead = v := by simp [List.getD]
        have e2 : (a.tmps.push z).getD st.sl.length undef = z := by
          have h1 : ¬ a.tmps.size < a.tmps.size := by omega
          rw [hsl.1]
          simp [Array.getD, Array.getElem_push]
        rw [e1]
        show Rep _ _ _ _ _ ((a.tmps.push z).getD st.sl.length undef)
        rw [e2]
        exact h2
    obtain ⟨st2, zs, q1, q2, q3, q4⟩ := resK_sound tt (fun x hx => hc x (List.mem_cons_of_mem _ hx)) hS2 h1 (by omega)
    refine ⟨st2, z :: zs, by simp [q1], fun i hi => ?_, q3, ?_⟩
    · cases i with
      | zero => simpa using h3
      | succ i =>
        have hi' : i < cs.length := by simpa using hi
        have := q2 i hi'
        simp only [List.getD_cons_succ]
        have hlt : (cs.getD i (0, 0)).1 < a.tmps.size := by
          have hm : cs.getD i (0, 0) ∈ cs := by
            have e : cs.getD i (0, 0) = cs[i] := by simp [List.getD, hi']
            rw [e]; exact List.getElem_mem hi'
          have := hc _ (List.mem_cons_of_mem _ hm)
          simp only [decide_eq_true_eq] at this
          omega
        have e2 : ∀ q, q < a.tmps.size → (a.tmps.push z).getD q undef = a.tmps.getD q undef := fun q hq => by
          have h2 : q < a.tmps.size + 1 := by omega
          simp [Array.getD, hq, h2, Array.getElem_push]
        rw [← e2 _ hlt]; exact this
    · have e1 : M + (c :: cs).length = M + 1 + cs.length := by simp; omega
      have e2 : a.tmps.push z ++ zs.toArray = a.tmps ++ (z :: zs).toArray := by
        apply Array.ext'
        simp
      rw [e1]
      simp only [e2] at q4
      exact q4

theorem loadAt_var {t : Nat} {v z : Value} {w w' : World} (h : (Instr.loadAt t v).run P w = .ok z w') : (do loadVar t (← asAddr v) : Sem Value).run P w = .ok z w' := by
  unfold Instr.loadAt at h
  cases v with
  | pointer p =>
    cases p with
    | none => simp [Instr.sureAddr] at h
    | some a => simpa [Instr.sureAddr, asAddr] using h
  | _ => simp [Instr.sureAddr] at h

theorem run_mapM2 {α β : Type} {w : World} (g : α → Sem β) : ∀ (l : List α) (vs : List β), l.length = vs.length → (∀ i (hi : i < l.length) (hi' : i < vs.length), (g l[i]).run P w = .ok vs[i] w) → (l.mapM g).run P w = .ok vs w
  | [], [], _, _ => by simp
  | [], _ :: _, h, _ => by simp at h
  | _ :: _, [], h, _ => by simp at h
  | x :: l, v :: vs, hl, h => by
    rw [List.mapM_cons]
    have h0 := h 0 (by simp) (by simp)
    simp only [List.getElem_cons_zero] at h0
    have ht := run_mapM2 g l vs (by simpa using hl) (fun i hi hi' => by
      have := h (i + 1) (by simpa using hi) (by simpa using hi')
      simpa using this)
    simp [h0, ht]

theorem results_runR {w : World} {fn : Func} {ss : List Nat} {tmps tmps2 : Array Value} (hl : fn.results.size = ss.length)
    (h : ∀ i (hi : i < fn.results.size), match fn.results[i] with
      | .tmp t => tmps.getD t undef = tmps2.getD (ss.getD i 0) undef
      | .cell a t => (do loadVar t (← asAddr (tmps.getD a undef)) : Sem Value).run P w = .ok (tmps2.getD (ss.getD i 0) undef) w) :
    (results fn tmps).run P w = .ok (match ss.map fun s => tmps2.getD s undef with | [v] => v | vs => .tuple vs.toArray) w := by
  unfold results
  rw [Array.mapM_eq_mapM_toList, Sem.run_bind, Sem.run_map]
  rw [run_mapM2 (P := P) (w := w) _ fn.results.toList (ss.map fun s => tmps2.getD s undef) (by simp [hl]) (fun i hi hi' => by
    have hi2 : i < fn.results.size := by simpa using hi
    have hi3 : i < ss.length := by omega
    have := h i hi2
    have e1 : ss.getD i 0 = ss[i] := by simp [List.getD, hi3]
    have e2 : fn.results.toList[i] = fn.results[i] := by simp
    rw [e1] at this
    rw [e2]
    simp only [List.getElem_map]
    generalize fn.results[i] = rv at this
    cases rv with
    | tmp t => simp only at this ⊢; rw [this]; rfl
    | cell a t => exact this)]
  simp only [Result.andThen_ok, Sem.run_pure]
  congr 1
  exact oneOr _

theorem fn_soundR (tt : TTok P TT) (hmix : P.follows .mixedOrders = true) {fid : Nat} {fn : Func} {c : Code} {x : Ann} {ins : Spec} {outs : List Spec} {N : Nat} {cells : List (Nat × Nat)} (hf : P.funcs[fid]? = some fn) (hb : fn.body = some c) (hN : fn.ntmps = N)
    (hres : outs.all (fun o => decide (fn.results.size = o.slots.length) && (List.range o.slots.length).all fun i => resOk N cells fn.results[i]? o.slots[i]?) = true)
    (hcs : cells.all (fun c => decide (c.1 < N)) = true) (hrs : outs.all (fun o => o.ok ins.objs.length (N + cells.length)) = true) (hx : x.ok P ins.objs.length N) (hp : ins.vs.len ≤ N) : FnSound P fid (mkFun ins outs (absFnR TT N cells ins outs c x)) := by
  intro ρ args ob k r e Fb w G vs inv hargs
  unfold mkFun at e
  simp only [Option.bind_eq_some_iff] at e
  obtain ⟨⟨d, fin⟩, hread, js, hjs, e⟩ := e
  simp only at hjs e
  split at e
  case h_2 => cases e
  rename_i hlend
  simp only [Option.bind_eq_some_iff] at e
  obtain ⟨y, hy, e⟩ := e
  obtain ⟨le, in2, hap, hfrom, hF⟩ := read_sound inv hread (empty_inv _ G _) hargs
  have hsrc := jsOf_spec hjs
  have hsl : fin.src.length = ins.objs.length := by rw [le.len]; simp
  have hjl : js.length = ins.objs.length := by rw [← hsl, hsrc, List.length_map]
  have hsi : ∀ i, i < js.length → fin.src[i]? = some (some (.obj (js.getD i 0))) := fun i hi => by
    rw [hsrc]; simp [List.getD, hi]
  have hjb : ∀ j ∈ js, j < ob.length := fun j hj => by
    obtain ⟨i, hi, rfl⟩ := List.getElem_of_mem hj
    have := in2.lt i _ _ (hsi i hi) rfl
    simpa [List.getD, hi] using this
  have hjn : js.Nodup := by
    rw [List.Nodup, List.pairwise_iff_getElem]
    intro i i' hi hi' hlt heq
    have e1 : js.getD i 0 = js[i] := by simp [List.getD, hi]
    have e2 : js.getD i' 0 = js[i'] := by simp [List.getD, hi']
    have := in2.inj i i' _ _ (js.getD i 0) (hsi i hi) (hsi i' hi') rfl (by rw [Whence.j, e1, e2, heq])
    omega
  have hjo : ∀ j ∈ js, j ∈ fin.own := fun j hj => by
    obtain ⟨i, hi, rfl⟩ := List.getElem_of_mem hj
    have := in2.own i _ _ (hsi i hi) rfl
    simpa [List.getD, hi] using this
  -- the callee's objects
  obtain ⟨Gc, hGcd⟩ : ∃ Gc, Gc = Gn fin.src ins.objs G := ⟨_, rfl⟩
  rw [← hGcd] at hfrom hF
  have hGc : ∀ i, i < js.length → Gc i = none ∨ Gc i = G (js.getD i 0) := fun i hi => by
    rw [hGcd]
    have hi2 : i < ins.objs.length := by omega
    have ho : ins.objs[i]? = some ins.objs[i] := by simp [hi2]
    unfold Gn
    rw [hsi i hi, ho]
    cases ins.objs[i] <;> simp
  have hGc0 : ∀ i, js.length ≤ i → Gc i = none := fun i hi => by
    cases hg : Gc i with
    | none => rfl
    | some g => rw [hGcd] at hg; have := Gn_lt hg; omega
  have hgone : ∀ j ∈ fin.gone, j ∉ js := fun j hj hj' => hap j (hjo j hj') hj
  obtain ⟨g1, g2⟩ := hF (fun b => avoid Fb G b ∧ ¬ Gc.has b ∧ ∀ j g, j ∈ fin.gone → G j = some g → g.blk ≠ some b) (fun b h => ⟨h.1, h.2.2⟩) (fun b h => h.2.1) (fun b h => by
    rcases h.1 with h | ⟨j, g, hg, hgb⟩
    · exact inv.old b h
    · exact (inv.free j g b hg hgb).2)
  have hol := encOs_length ins.objs id ins.objs (ins.objs_ d)
  have hal := encL_length ins.objs id ins.vs (ins.vs_ d)
  obtain ⟨hi1, hi2⟩ := repL_index g2
  have hvl : vs.size = ins.vs.len := by rw [← hal, hi1]; simp
  refine callsIn_wide.1 (callsIn_of_wp_marks (F := Fence.wide) (n := 0) hf hb trivial ?_)
  have hS : S (fun b => avoid Fb G b ∧ ¬ Gc.has b ∧ ∀ j g, j ∈ fin.gone → G j = some g → g.blk ≠ some b) ins.objs.length w Gc N (ins.init N d) { tmps := vs ++ Array.replicate (fn.ntmps - vs.size) undef, defers := [] } w := by
    refine ⟨Gc, g1, ?_, ⟨Trans.refl _ _ _, by show _ ≤ (encOs _ _ _ _).length; rw [hol]; exact Nat.le_refl _⟩, Marks.nil, by simp [Spec.init, hal]; omega⟩
    show Slots _ w (encOs ins.objs id ins.objs (ins.objs_ d)).length Gc _ _
    rw [hol]
    refine ⟨by simp [Spec.init, hal, hvl, hN], fun i hi => ?_⟩
    have hiN : i < N := by simp [Spec.init, hal] at hi; omega
    by_cases hlt : i < ins.vs.len
    · have e1 : (ins.init N d).sl.getD i .dead = (encL ins.objs id ins.vs (ins.vs_ d)).getD i .dead := by simp [Spec.init, List.getD, List.getElem?_append, hal, hlt]
      have hlt2 : i < vs.size := by omega
      have e2 : (vs ++ Array.replicate (fn.ntmps - vs.size) undef).getD i undef = vs.toList.getD i undef := by
        have : i < vs.size + (fn.ntmps - vs.size) := by omega
        simp [Array.getD, List.getD, hlt2, this]
      rw [e1]
      show Rep _ _ _ _ _ ((vs ++ Array.replicate (fn.ntmps - vs.size) undef).getD i undef)
      rw [e2]
      exact hi2 i (by omega)
    · have e1 : (ins.init N d).sl.getD i .dead = .undef := by
        have h3 : i - ins.vs.len < N - ins.vs.len := by omega
        simp [Spec.init, List.getD, List.getElem?_append, hal, hlt, h3]
      have e2 : (vs ++ Array.replicate (fn.ntmps - vs.size) undef).getD i undef = undef := by
        have h3 : ¬ i < vs.size := by omega
        by_cases h4 : i < vs.size + (fn.ntmps - vs.size)
        · simp [Array.getD, h4, Array.getElem_append, h3]
        · simp [Array.getD, h4]
      rw [e1]
      show Rep _ _ _ _ _ ((vs ++ Array.replicate (fn.ntmps - vs.size) undef).getD i undef)
      rw [e2]
      exact .undef
  have hend : ∀ st a w', S (fun b => avoid Fb G b ∧ ¬ Gc.has b ∧ ∀ j g, j ∈ fin.gone → G j = some g → g.blk ≠ some b) ins.objs.length w Gc N st a w' → resK TT cells st (outInj outs) = some y →
      ∃ v, (results fn a.tmps).run P w' = .ok v w' ∧ ∃ res ob' G' v', Ending.returned v = .returned v' ∧ k res ob' = some r ∧ RepRes (avoid Fb G') w' ob'.length G' res v' ∧ Inv Fb w' G' ob' ∧ Trans ob.length w G w' G' ∧ ob.length ≤ ob'.length := by
    intro st0 a0 w' hS0 hinj0
    obtain ⟨st, zs, hzl, hz, hinj, hS'⟩ := resK_sound tt (List.all_eq_true.1 hcs) hS0 hinj0 (Nat.le_refl _)
    obtain ⟨a, ha⟩ : ∃ a : Act, a = { a0 with tmps := a0.tmps ++ zs.toArray } := ⟨_, rfl⟩
    rw [← ha] at hS'
    have hsz : a0.tmps.size = N := hS0.size
    obtain ⟨o, ho, d2, hdec, hout⟩ := outInj_sound outs st y hinj
    rw [hout] at e
    have hok := List.all_eq_true.1 hrs o ho
    have hres' := List.all_eq_true.1 hres o ho
    obtain ⟨G', inv', hsl', htr, hdf, hN'⟩ := hS'
    simp only [Spec.ok, Bool.and_eq_true, decide_eq_true_eq, List.all_eq_true] at hok
    obtain ⟨⟨⟨h1, h2⟩, h3⟩, h4⟩ := hok
    unfold Spec.dec at hdec
    simp only [Option.map_eq_some_iff] at hdec
    obtain ⟨⟨d', fin2⟩, e1, rfl⟩ := hdec
    have hr : RepL (avoid (fun b => avoid Fb G b ∧ ¬ Gc.has b ∧ ∀ j g, j ∈ fin.gone → G j = some g → g.blk ≠ some b) G') w' st.ob.length G' (o.slots.map fun i => st.sl.getD i .dead) (o.slots.map fun i => a.tmps.getD i undef) :=
      repL_of (by simp) fun i hi => by
        have hi' : i < o.slots.length := by simpa using hi
        have e1 : (o.slots.map fun i => st.sl.getD i .dead).getD i .dead = st.sl.getD o.slots[i] .dead := by simp [List.getD, hi']
        have e2 : (o.slots.map fun i => a.tmps.getD i undef).getD i undef = a.tmps.getD o.slots[i] undef := by simp [List.getD, hi']
        rw [e1, e2]; exact hsl'.eval (a := a) _
    obtain ⟨le2, _, _, hfrom2, hF2⟩ := read_sound inv' e1 (start_inv G' o.np o.objs _ (by have := htr.le; omega)) hr
    obtain ⟨k1, k2⟩ := hF2 (fun b => avoid Fb G b ∧ ¬ Gc.has b ∧ ∀ j g, j ∈ fin.gone → G j = some g → g.blk ≠ some b) (fun b hb => ⟨.inl hb, fun j g _ hg hgb => (inv'.free j g b hg hgb).1 hb⟩) (fun b hb hh => by
      obtain ⟨j, g, _, hg, hgb⟩ := hfrom2 b hh
      exact (inv'.free j g b hg hgb).1 hb) inv'.old
    have ht2 : Trans js.length w Gc w' (Gn fin2.src o.objs G') := by
      refine ⟨htr.t.os, htr.t.tape, htr.t.output, htr.t.size, htr.t.frame, fun b hb => ?_, fun i hi => ?_⟩
      · obtain ⟨j, g, _, hg, hgb⟩ := hfrom2 b hb
        exact htr.t.own b ⟨j, g, hg, hgb⟩
      · rcases start_keep (G := G') le2 (i := i) (by omega) (by omega) with h | h
        · exact .inl h
        · rw [h]; exact htr.t.keep i (by omega)
    obtain ⟨so, hso, hso2, hso3⟩ : ∃ so : Bool, (so = false → fin.gone = []) ∧ (so = true → o.objs.all OT.solid = true) ∧ (so = true → o.vs.solid = true) := by
      cases hg : fin.gone with
      | nil => exact ⟨false, fun _ => rfl, (fun h => nomatch h), (fun h => nomatch h)⟩
      | cons q l =>
        rw [hg] at hlend
        have := List.all_eq_true.1 hlend o ho
        simp only [Spec.solid, Bool.and_eq_true] at this
        exact ⟨true, (fun h => nomatch h), fun _ => this.2, fun _ => this.1⟩
    obtain ⟨m1, m2, m3, m4⟩ := merge_sound inv hjn hjb (by omega) hGc hGc0 hgone k1 ht2 hso hso2
    have hrep := encL_ren m4 o.vs (o.vs_ d') _ hso3 k2
    have hrun : (results fn a0.tmps).run P w' = .ok (match o.slots.map fun s => a.tmps.getD s undef with | [v] => v | vs => .tuple vs.toArray) w' := by
      simp only [Bool.and_eq_true, decide_eq_true_eq, List.all_eq_true, List.mem_range] at hres'
      obtain ⟨q1, q2⟩ := hres'
      refine results_runR q1 fun i hi => ?_
      have hi3 : i < o.slots.length := by omega
      have := q2 i hi3
      simp only [Array.getElem?_eq_getElem hi, List.getElem?_eq_getElem hi3] at this
      have es : o.slots.getD i 0 = o.slots[i] := by simp [List.getD, hi3]
      rw [es]
      generalize o.slots[i] = s at this
      generalize fn.results[i] = rv at this
      subst ha
      cases rv with
      | tmp t =>
        simp only [resOk, Bool.and_eq_true, beq_iff_eq, decide_eq_true_eq] at this
        obtain ⟨hts, hlt⟩ := this
        rw [← hts]
        show a0.tmps.getD t undef = (a0.tmps ++ zs.toArray).getD t undef
        have h1 : t < a0.tmps.size := by rw [hsz]; exact hlt
        have h2 : t < a0.tmps.size + zs.length := Nat.lt_of_lt_of_le h1 (Nat.le_add_right _ _)
        simp [Array.getD, h1, h2]
      | cell ad t =>
        simp only [resOk, Bool.and_eq_true, beq_iff_eq, decide_eq_true_eq] at this
        obtain ⟨hle, hc⟩ := this
        have hlt : s - N < cells.length := (List.getElem?_eq_some_iff.1 hc).1
        have := hz (s - N) hlt
        have ec : cells.getD (s - N) (0, 0) = (ad, t) := by simp [List.getD, hc]
        rw [ec] at this
        show (do loadVar t (← asAddr (a0.tmps.getD ad undef)) : Sem Value).run P w' = .ok ((a0.tmps ++ zs.toArray).getD s undef) w'
        have e2 : (a0.tmps ++ zs.toArray).getD s undef = zs.getD (s - N) undef := by
          have h1 : ¬ s < N := by omega
          have h3 : s - N < zs.length := by rw [hzl]; exact hlt
          have h2 : s < N + zs.length := by omega
          simp [Array.getD, h1, h2, Array.getElem_append, List.getD, hsz, h3]
        rw [e2]
        exact loadAt_var this
    refine ⟨_, hrun, _, _, _, _, rfl, e, ?_, m1, m2, m3⟩
    generalize encL o.objs (newIdx js ob.length) o.vs (o.vs_ d') = q at hrep
    generalize (o.slots.map fun s => a.tmps.getD s undef) = us at hrep
    match q, us, hrep with
    | [], [], _ => exact ⟨#[], rfl, trivial⟩
    | [x], [u], h => exact h.1
    | x :: y :: l, u :: v :: us, h => exact ⟨_, rfl, h⟩
  exact code_sound tt hmix c none _ _ _ x y _ _ w _ _ _ _ hx (.inl rfl) ⟨hS, fun q => by cases q⟩ hy (fun st a w' h1 h2 => leaves_end (fun w'' h => hend st _ w'' h h2) a.defers w' h1.1) (fun id st a w' h1 h2 => by cases h2) (fun st a w' h1 h2 => leaves_end (fun w'' h => hend st _ w'' h h2) a.defers w' h1.1)

theorem sndR (tt : TTok P TT) (hmix : P.follows .mixedOrders = true) {fid : Nat} {fn : Func} {x : Ann} {ins : Spec} {outs : List Spec} {N : Nat} {cells : List (Nat × Nat)} {X : ins.D → Option (OutD outs)} (he : absFnR TT N cells ins outs (bodyOf fn) x = X) (hx : x.ok P ins.objs.length N) (hf : P.funcs[fid]? = some fn)
    (hb : fn.body = some (bodyOf fn)) (hN : fn.ntmps = N)
    (hres : outs.all (fun o => decide (fn.results.size = o.slots.length) && (List.range o.slots.length).all fun i => resOk N cells fn.results[i]? o.slots[i]?) = true)
    (hcs : cells.all (fun c => decide (c.1 < N)) = true) (hrs : outs.all (fun o => o.ok ins.objs.length (N + cells.length)) = true) (hp : ins.vs.len ≤ N) (hn : fn.name ≠ "runtime.NumGoroutine") : (mkC fid ins outs X).ok P := by
  refine ⟨?_, fn, bodyOf fn, hf, hb, hn⟩
  subst he
  exact fn_soundR tt hmix hf hb hN hres hcs hrs hx hp

end
end Go.Proofs.YtlbammfnkphajaaGreatDoor.Abs
