/- Code: blocks, branches, loops, joins. -/
import Derived.Test.YtlbammfnkphajaaGreatDoorAbsRangeS
namespace Go.Proofs.YtlbammfnkphajaaGreatDoor.Abs
open Go
set_option linter.unusedVariables false

section
variable {F : Nat → Prop} {P : Program} {TT : Nat → TI} {ρ : Type} {r : ρ} {np : Nat} {w0 : World} {G0 : Gs} {N : Nat}

theorem unroll_sound {c : Code} {kE : Nat → St → Option ρ} {kR : St → Option ρ} {Q : Exit → Act → World → Prop}
    {rd : Option Nat} (hc : ∀ (x : Ann) (st : St) (a : Act) (w : World) (kN : St → Option ρ) (Q' : Exit → Act → World → Prop), x.ok P np N → (rd = none ∨ x.flat = true) → SR rd F np w0 G0 N st a w → absCode TT c x st kN kE kR = some r → (∀ st a w, SR rd F np w0 G0 N st a w → kN st = some r → Q' .normal a w) →
      (∀ id st a w, SR rd F np w0 G0 N st a w → kE id st = some r → Q' (.exit id) a w) → (∀ st a w, SR rd F np w0 G0 N st a w → kR st = some r → Q' .ret a w) → c.wpIn (Fr rd) 0 P Q' a w)
    (hE : ∀ id st a w, SR rd F np w0 G0 N st a w → kE id st = some r → Q (.exit id) a w) (hR : ∀ st a w, SR rd F np w0 G0 N st a w → kR st = some r → Q .ret a w) :
    ∀ (x : Ann) (st : St) (a : Act) (w : World), x.ok P np N → (rd = none ∨ x.flat = true) → SR rd F np w0 G0 N st a w → unrollK (fun x st kN => absCode TT c x st kN kE kR) x st = some r → Code.roundsIn (Fr rd) 0 P c Q x.len a w
  | .unroll x y, st, a, w, hok, hfl, hS, e => by
    rw [unrollK] at e
    rw [Ann.len, roundsIn_succ]
    have hfl2 := hfl
    simp only [Ann.flat, Bool.and_eq_true] at hfl2
    refine hc x st a w _ _ hok.1 (hfl2.imp id And.left) hS e (fun st' a' w' hS' e' => ?_) (fun id st' a' w' hS' e' => ?_) (fun st' a' w' hS' e' => ?_)
    · exact unroll_sound hc hE hR y st' a' w' hok.2 (hfl2.imp id And.right) hS' e'
    · exact hE id st' a' w' hS' e'
    · exact hR st' a' w' hS' e'
  | .std, st, a, w, _, _, _, e => by simp [unrollK] at e
  | .reg _, st, a, w, _, _, _, e => by simp [unrollK] at e
  | .drw _, st, a, w, _, _, _, e => by simp [unrollK] at e
  | .seq _ _, st, a, w, _, _, _, e => by simp [unrollK] at e
  | .join _ _ _, st, a, w, _, _, _, e => by simp [unrollK] at e
  | .cond _ _, st, a, w, _, _, _, e => by simp [unrollK] at e
  | .block _, st, a, w, _, _, _, e => by simp [unrollK] at e
  | .loop _ _ _, st, a, w, _, _, _, e => by simp [unrollK] at e
  | .chunk _ _ _ _ _ _ _, st, a, w, _, _, _, e => by simp [unrollK] at e

theorem inject_soundR {rd : Option Nat} {np : Nat} {w0 : World} {G0 : Gs} {N : Nat} (alts : List (EK × Spec)) {ek : EK} {st : St} {a : Act} {w : World} {d : AltD alts} (ho : alts.all (fun x => x.2.ok np N) = true) (hS : SR rd F np w0 G0 N st a w) (h : inject alts ek st = some d) :
    ∃ st2, SR rd F np w0 G0 N st2 a w ∧ ∀ {τ : Type} (k : EK → St → Option τ), dispatch alts d k = k ek st2 := by
  obtain ⟨st2, h1, h2⟩ := inject_sound alts ho hS.1 h
  exact ⟨st2, ⟨h1, hS.2⟩, h2⟩

theorem code_sound (tt : TTok P TT) (hmix : P.follows .mixedOrders = true) {N : Nat} : ∀ (c : Code) (rd : Option Nat) (np : Nat) (w0 : World) (G0 : Gs) (x : Ann) {ρ : Type} (r : ρ) (st : St) (a : Act) (w : World) (kN : St → Option ρ) (kE : Nat → St → Option ρ) (kR : St → Option ρ) (Q : Exit → Act → World → Prop),
    x.ok P np N → (rd = none ∨ x.flat = true) → SR rd F np w0 G0 N st a w → absCode TT c x st kN kE kR = some r → (∀ st a w, SR rd F np w0 G0 N st a w → kN st = some r → Q .normal a w) →
    (∀ id st a w, SR rd F np w0 G0 N st a w → kE id st = some r → Q (.exit id) a w) → (∀ st a w, SR rd F np w0 G0 N st a w → kR st = some r → Q .ret a w) → c.wpIn (Fr rd) 0 P Q a w
  | .skip, rd, np, w0, G0, x, _, r, st, a, w, kN, kE, kR, Q, _, hfl, hS, e, hN, _, _ => by rw [ac_skip] at e; exact wpIn_skip (hN st a w hS e)
  | .ret, rd, np, w0, G0, x, _, r, st, a, w, kN, kE, kR, Q, _, hfl, hS, e, _, _, hR => by rw [ac_ret] at e; exact wpIn_ret (hR st a w hS e)
  | .exit id, rd, np, w0, G0, x, _, r, st, a, w, kN, kE, kR, Q, _, hfl, hS, e, _, hE, _ => by rw [ac_exit] at e; exact wpIn_exit (hE id st a w hS e)
  | .region id ops false, rd, np, w0, G0, x, _, r, st, a, w, kN, kE, kR, Q, hok, hfl, hS, e, hN, _, _ => by
    cases x with
    | reg hs =>
      have e' : opsK TT ops.toList ops.toList hs st kN = some r := by rw [absCode] at e; exact e
      exact wpIn_region_list (wpL_in _ _ _ (opsK_sound tt (fun st a' w h0 h => hN st a' w ⟨h, fun q => h0.trans (hS.2 q)⟩) ops.toList hs st a w hok rfl hS.1 e'))
    | _ => rw [absCode] at e; cases e
  | .region id ops true, rd, np, w0, G0, x, _, r, st, a, w, kN, kE, kR, Q, hok, hfl, hS, e, hN, _, _ => by
    cases x with
    | drw hs =>
      have e' : (match drwOk ops.toList hs with | true => opsK TT ops.toList ops.toList hs st kN | false => match drwOkT ops.toList hs with | true => opsT TT ops.toList ops.toList hs 0 [] [] st kN | false => none) = some r := by rw [absCode] at e; exact e
      cases hd : drwOk ops.toList hs with
      | true =>
        rw [hd] at e'
        exact draw_sound tt hmix (fun h hh => (hok h hh).1) (fun h hh => (hok h hh).2) hd rfl hS.1 e' (fun st a' w h0 h => hN st a' w ⟨h, fun q => h0.trans (hS.2 q)⟩)
      | false =>
        rw [hd] at e'
        simp only at e'
        cases hd2 : drwOkT ops.toList hs with
        | true =>
          rw [hd2] at e'
          exact draw_soundT tt hmix (fun h hh => (hok h hh).1) (fun h hh => (hok h hh).2) hd2 rfl hS.1 e' (fun st a' w h0 h => hN st a' w ⟨h, fun q => h0.trans (hS.2 q)⟩)
        | false => rw [hd2] at e'; cases e'
    | _ => rw [absCode] at e; cases e
  | .seq c1 c2, rd, np, w0, G0, x, _, r, st, a, w, kN, kE, kR, Q, hok, hfl, hS, e, hN, hE, hR => by
    cases x with
    | seq x y =>
      rw [ac_seq] at e
      simp only [Ann.flat, Bool.and_eq_true] at hfl
      refine wpIn_seq (code_sound tt hmix c1 rd np w0 G0 x r st a w _ kE kR _ hok.1 (hfl.imp id And.left) hS e (fun st' a' w' hS' e' => ?_) hE hR)
      exact code_sound tt hmix c2 rd np w0 G0 y r st' a' w' kN kE kR Q hok.2 (hfl.imp id And.right) hS' e' hN hE hR
    | join alts x y =>
      rw [ac_join] at e
      simp only [Ann.flat, Bool.and_eq_true] at hfl
      simp only [Option.bind_eq_some_iff] at e
      obtain ⟨d, e1, e2⟩ := e
      refine wpIn_seq (code_sound tt hmix c1 rd np w0 G0 x d st a w _ _ _ _ hok.2.1 (hfl.imp id And.left) hS e1 (fun st' a' w' hS' e' => ?_) (fun id st' a' w' hS' e' => ?_) (fun st' a' w' hS' e' => ?_))
      · obtain ⟨st2, h1, h2⟩ := inject_soundR alts hok.1 hS' e'
        rw [h2] at e2
        exact code_sound tt hmix c2 rd np w0 G0 y r st2 a' w' kN kE kR Q hok.2.2 (hfl.imp id And.right) h1 e2 hN hE hR
      · obtain ⟨st2, h1, h2⟩ := inject_soundR alts hok.1 hS' e'
        rw [h2] at e2
        exact hE id st2 a' w' h1 e2
      · obtain ⟨st2, h1, h2⟩ := inject_soundR alts hok.1 hS' e'
        rw [h2] at e2
        exact hR st2 a' w' h1 e2
    | _ => rw [absCode] at e; cases e
  | .cond c c1 c2, rd, np, w0, G0, x, _, r, st, a, w, kN, kE, kR, Q, hok, hfl, hS, e, hN, hE, hR => by
    cases x with
    | cond x y =>
      rw [ac_cond] at e
      simp only [Ann.flat, Bool.and_eq_true] at hfl
      split at e
      · rename_i t ht
        obtain ⟨⟨G, inv, hsl, h3⟩, hd0⟩ := hS
        have hr := hsl.ev c
        rw [ht] at hr
        generalize hv : a.eval c = v at hr
        cases hr
        refine wpIn_cond hv ?_
        have hk := know_sound hsl hv
        cases t
        · exact code_sound tt hmix c2 rd np w0 G0 y r _ a w kN kE kR Q hok.2 (hfl.imp id And.right) ⟨⟨G, by rw [hk.2.1]; exact inv, by rw [hk.2.1]; exact hk.1, by rw [hk.2.1]; exact h3.1, h3.2.1, by rw [hk.2.2]; exact h3.2.2⟩, hd0⟩ e hN hE hR
        · exact code_sound tt hmix c1 rd np w0 G0 x r _ a w kN kE kR Q hok.1 (hfl.imp id And.left) ⟨⟨G, by rw [hk.2.1]; exact inv, by rw [hk.2.1]; exact hk.1, by rw [hk.2.1]; exact h3.1, h3.2.1, by rw [hk.2.2]; exact h3.2.2⟩, hd0⟩ e hN hE hR
      · cases e
    | _ => rw [absCode] at e; cases e
  | .block id c, rd, np, w0, G0, x, _, r, st, a, w, kN, kE, kR, Q, hok, hfl, hS, e, hN, hE, hR => by
    cases x with
    | block x =>
      rw [ac_block] at e
      refine wpIn_block (code_sound tt hmix c rd np w0 G0 x r st a w kN _ kR _ hok hfl hS e hN (fun id' st' a' w' hS' e' => ?_) hR)
      show if id' = id then Q .normal a' w' else Q (.exit id') a' w'
      split at e'
      · rename_i h; rw [if_pos h]; exact hN st' a' w' hS' e'
      · rename_i h; rw [if_neg h]; exact hE id' st' a' w' hS' e'
    | _ => rw [absCode] at e; cases e
  | .loop c, rd, np, w0, G0, x, _, r, st, a, w, kN, kE, kR, Q, hok, hfl, hS, e, hN, hE, hR => by
    cases x with
    | loop h alts x =>
      rw [ac_loop] at e
      simp only [Option.bind_eq_some_iff] at e
      obtain ⟨s0, e0, d, e1, e2⟩ := e
      obtain ⟨n, hn⟩ := loopO_iter e1
      have hS0 : SR rd F np w0 G0 N (h.enc s0) a w := ⟨spec_sound hok.1 hS.1 e0, hS.2⟩
      clear e0 e1 hS
      refine wpIn_loop_rounds n ?_
      induction n generalizing s0 a w with
      | zero => cases hn
      | succ n ih =>
        rw [iter] at hn
        split at hn
        · cases hn
        · rename_i s' hstep
          refine code_sound tt hmix c rd np w0 G0 x (Sum.inl s') _ a w _ _ _ _ hok.2.2 hfl hS0 hstep (fun st' a' w' hS' e' => ?_) (fun id st' a' w' hS' e' => ?_) (fun st' a' w' hS' e' => ?_)
          · simp only [Option.bind_eq_some_iff, Option.some.injEq, Sum.inl.injEq] at e'
            obtain ⟨s2, h1, rfl⟩ := e'
            exact ih a' w' s2 hn ⟨spec_sound hok.1 hS'.1 h1, hS'.2⟩
          · simp only [Option.bind_eq_some_iff, Option.some.injEq] at e'
            obtain ⟨_, _, h⟩ := e'
            cases h
          · simp only [Option.bind_eq_some_iff, Option.some.injEq] at e'
            obtain ⟨_, _, h⟩ := e'
            cases h
        · rename_i d' hstep
          simp only [Option.some.injEq] at hn
          subst hn
          refine code_sound tt hmix c rd np w0 G0 x (Sum.inr d') _ a w _ _ _ _ hok.2.2 hfl hS0 hstep (fun st' a' w' hS' e' => ?_) (fun id st' a' w' hS' e' => ?_) (fun st' a' w' hS' e' => ?_)
          · simp only [Option.bind_eq_some_iff, Option.some.injEq] at e'
            obtain ⟨_, _, h⟩ := e'
            cases h
          · simp only [Option.bind_eq_some_iff, Option.some.injEq, Sum.inr.injEq] at e'
            obtain ⟨d2, h1, rfl⟩ := e'
            obtain ⟨st2, h2, h3⟩ := inject_soundR alts hok.2.1 hS' h1
            rw [h3] at e2
            exact hE id st2 a' w' h2 e2
          · simp only [Option.bind_eq_some_iff, Option.some.injEq, Sum.inr.injEq] at e'
            obtain ⟨d2, h1, rfl⟩ := e'
            obtain ⟨st2, h2, h3⟩ := inject_soundR alts hok.2.1 hS' h1
            rw [h3] at e2
            exact hR st2 a' w' h2 e2
    | unroll x y =>
      have e' : unrollK (fun x st kN => absCode TT c x st kN kE kR) (.unroll x y) st = some r := by rw [absCode] at e; exact e
      exact wpIn_loop_rounds _ (unroll_sound (Q := Q) (rd := rd) (fun x st a w kN Q' h1 h2 h3 h4 h5 h6 h7 => code_sound tt hmix c rd np w0 G0 x r st a w kN kE kR Q' h1 h2 h3 h4 h5 h6 h7) hE hR (.unroll x y) st a w hok hfl hS e')
    | _ => rw [absCode] at e; cases e
  | .rangeFunc g ps assign body, rd, np, w0, G0, x, _, r, st, a, w, kN, kE, kR, Q, hok, hfl, hS, e, hN, _, _ => by
    cases x with
    | chunk fid tS tI T h xa xb =>
      rcases hfl with rfl | hfl
      case inr => cases hfl
      have e' := e
      rw [absCode] at e'
      simp only at e'
      split at e'
      case h_2 => cases e'
      rename_i xs n p hc
      split at e'
      case isFalse => cases e'
      rename_i hn
      simp only [Option.bind_eq_some_iff] at e'
      obtain ⟨s0, e0, s1, e1, e2⟩ := e'
      exact range_sound tt hmix (code_sound tt hmix assign) (code_sound tt hmix body) hok hS.1 hc hn e0 e1 fun a' w' h => hN _ a' w' ⟨h, fun q => by cases q⟩ e2
    | _ => rw [absCode] at e; cases e
  | .scope _, rd, np, w0, G0, x, _, r, st, a, w, kN, kE, kR, Q, _, _, _, e, _, _, _ => by rw [absCode] at e; cases e
  | .label _, rd, np, w0, G0, x, _, r, st, a, w, kN, kE, kR, Q, _, _, _, e, _, _, _ => by rw [absCode] at e; cases e
  | .goto _, rd, np, w0, G0, x, _, r, st, a, w, kN, kE, kR, Q, _, _, _, e, _, _, _ => by rw [absCode] at e; cases e
  | .refuse _, rd, np, w0, G0, x, _, r, st, a, w, kN, kE, kR, Q, _, _, _, e, _, _, _ => by rw [absCode] at e; cases e

/-! ### Functions -/

theorem oneOr (vs : List Value) : (if h : vs.toArray.size = 1 then vs.toArray[0] else Value.tuple vs.toArray) = (match vs with | [v] => v | vs => .tuple vs.toArray) := by
  match vs with
  | [] => simp
  | [v] => simp
  | v :: u :: r => simp

theorem results_run {w : World} {fn : Func} {ss : List Nat} (h : fn.results = (ss.map ResultVar.tmp).toArray) (tmps : Array Value) :
    (results fn tmps).run P w = .ok (match ss.map fun s => tmps.getD s undef with | [v] => v | vs => .tuple vs.toArray) w := by
  unfold results
  rw [h, Array.mapM_eq_mapM_toList, Sem.run_bind, Sem.run_map]
  simp only
  rw [run_mapM (P := P) (w := w) _ (fun x => match x with | .tmp t => tmps.getD t undef | .cell _ _ => undef) (ss.map ResultVar.tmp) (fun x hx => by
        obtain ⟨s, _, rfl⟩ := List.mem_map.1 hx
        rfl), List.map_map]
  simp only [Result.andThen_ok, Sem.run_pure]
  congr 1
  exact oneOr _

/-- What was laid for deferred calls is shut as the function ends. -/
theorem leaves_end {fn : Func} {R : Ending → World → Prop} {tmps : Array Value} {np : Nat} {w0 : World} {G0 : Gs} {N : Nat} {st : St}
    (h : ∀ w, S F np w0 G0 N st { tmps := tmps, defers := [] } w → ∃ v, (results fn tmps).run P w = .ok v w ∧ R (.returned v) w) :
    ∀ (ds : List Deferred) (w : World), S F np w0 G0 N st { tmps := tmps, defers := ds } w → LeavesInM Fence.wide 0 P fn tmps R ds .returning w
  | [], w, hS => h w hS
  | d :: ds, w, hS => by
    obtain ⟨G, inv, hsl, htr, hm, hN⟩ := hS
    obtain ⟨D, k1, k2, k3, k4⟩ := hm.1 d List.mem_cons_self
    have hh := not_holds_def k2
    refine ⟨(fun q => by cases q), .inl ⟨D, _, k1, run_takeDeferred k2, leaves_end h ds _ ⟨G, inv.turn hh k3, hsl.stays (turn_stays hh), htr.turn k4, ?_, hN⟩⟩⟩
    have hp := List.pairwise_cons.1 hm.2
    exact Marks.turn (o := .deferred none) ⟨fun d' hd' => hm.1 d' (List.mem_cons_of_mem _ hd'), hp.2⟩ fun d' hd' q => hp.1 d' hd' (k1.trans q.symm)

end

end Go.Proofs.YtlbammfnkphajaaGreatDoor.Abs
