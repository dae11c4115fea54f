/- The call of yield; the rounds; the statement. -/
import Derived.Test.YtlbammfnkphajaaGreatDoorAbsRangeT
namespace Go.Proofs.YtlbammfnkphajaaGreatDoor.Abs
open Go
set_option linter.unusedVariables false
section
variable {F : Nat → Prop} {P : Program} {TT : Nat → TI}
variable {np : Nat} {w0 : World} {G0 : Gs} {ds : List Deferred} {l : Nat} {rec : Loop} {sl : List AV} {ob : List AO} {tmps : Array Value}

theorem rep_fn0 {A : Nat → Prop} {w : World} {n : Nat} {G : Gs} {f : Fn} {v : Value} (h : Rep A w n G (.fn f [] []) v) : v = .func f #[] #[] := by
  cases h with
  | fn _ _ _ vf vc h1 h2 _ _ =>
    have e1 : vf = #[] := Array.eq_empty_of_size_eq_zero h1.symm
    have e2 : vc = #[] := Array.eq_empty_of_size_eq_zero h2.symm
    rw [e1, e2]

theorem yield_run {o : Oper} {t : Nat} {ac : Act} {w : World} {v : Value} {p : Nat} (ho : o.op = .call { callee := .value (.tmp 19), args := #[.tmp 28], argTypes := #[t] }) (hf : ac.eval (.tmp 19) = .func (.yield l) #[] #[]) (hv : ac.eval (.tmp 28) = v)
    (hl : w.heap[l]? = some (.loop rec)) (hps : rec.params = #[p]) : (execOp ac.eval o).run P w = .ok (.round l rec.fn (rec.tmps.setIfInBounds p v) rec.assign rec.body) w := by
  have hy := run_yield (P := P) (args := #[v]) hl (by rw [hps]; rfl)
  rw [hps] at hy
  have hr : ∀ ty, (resolve ac.eval { callee := .value (.tmp 19), args := #[.tmp 28], argTypes := #[t] } ty).run P w = .ok { target := .fn (.yield l) #[], args := #[v] } w := by
    intro ty
    have e : (#[Operand.tmp 28].map ac.eval) = #[v] := by rw [← hv]; simp
    simp only [resolve, hf, e]
    rfl
  have hi : (invoke (.fn (.yield l) #[]) #[v]).run P w = .ok (.round l rec.fn (rec.tmps.setIfInBounds p v) rec.assign rec.body) w := by
    have e : invoke (.fn (.yield l) #[]) #[v] = Instr.yield l #[v] := rfl
    rw [e, hy]
    simp
  simp only [execOp, ho, Sem.run_bind, hr, Result.andThen_ok, hi]

/-- The call of yield: a round. -/
theorem yield_op {o : Oper} {t : Nat} {slc : List AV} {ac : Act} {w : World} {p : Nat} {T : Ty} {part : List T.D} {next : Act → World → Prop} {Q : Exit → Act → World → Prop} (ho : o.op = .call { callee := .value (.tmp 19), args := #[.tmp 28], argTypes := #[t] })
    (h : JS F np w0 G0 ds l rec sl ob tmps slc ac.tmps w) (h19 : slc.getD 19 .dead = .fn (.yield l) [] []) (h28 : slc.getD 28 .dead = .isl T part) (hps : rec.params = #[p])
    (hround : ∀ G v, (Inv F w G ob ∧ Slots (avoid F G) w ob.length G sl tmps ∧ Tr np w0 G0 w G ob.length ∧ Marks w G w0.heap.size ds) → (w.heap[l]? = some (.loop rec) ∧ ¬ G.has l ∧ w0.heap.size ≤ l) → Slots (avoid F G) w 0 G00 slc ac.tmps → Rep (avoid F G) w ob.length G (.isl T part) v →
      RoundIn Fence.wide 0 P l rec.fn (rec.tmps.setIfInBounds p v) rec.assign rec.body w fun e w' => e = .returned (.bool true) ∧ next (ac.put o.dst (.bool true)) w') :
    o.wpIn (Fr none) 0 P ac w next Q := by
  obtain ⟨G, h1, h2, hc⟩ := h
  have hf : ac.eval (.tmp 19) = .func (.yield l) #[] #[] := by
    have := hc.eval (a := ac) 19
    rw [h19] at this
    exact rep_fn0 this
  have hv : Rep (avoid F G) w 0 G00 (.isl T part) (ac.eval (.tmp 28)) := by
    have := hc.eval (a := ac) 28
    rw [h28] at this
    exact this
  have hr := yield_run (P := P) ho hf rfl h2.1 hps
  have hround := hround G _ h1 h2 hc (hv.flat (fun _ h => h) rfl)
  refine ⟨fun f _ => trivial, ?_⟩
  show o.uponIn Fence.wide 0 P ac next Q ((o.semAt none ac.eval).run P w)
  rw [Oper.semAt_none, hr, Oper.uponIn_round]
  refine ⟨(fun h => by cases h), hround.mono ?_⟩
  rintro e w' ⟨rfl, h⟩
  exact h

/-- The function's walk: a round for each piece. -/
theorem chunk_loop (tt : TTok P TT) (hmix : P.follows .mixedOrders = true) {tS tI tY tB e p : Nat} {T : Ty} {σ : Type} {enc : σ → St} {step : List T.D → σ → Option σ} {Q : Exit → Act → World → Prop}
    (hS : (TT tS).kind = .sl e) (hI : (TT tI).kind = .int .i64) (hz : (TT e).size = T.size ∧ (TT e).kind.isOther = false) (hps : rec.params = #[p]) {xs : List T.D} {m : Nat} (hm : 1 ≤ m) (hlen : m + xs.length ≤ 9223372036854775807) {s1 : σ}
    (hround : ∀ (part : List T.D) (s s' : σ) (slc : List AV) (tc : Array Value) (w : World) (G : Gs) (v : Value), step part s = some s' → (Inv F w G (enc s).ob ∧ Slots (avoid F G) w (enc s).ob.length G (enc s).sl tmps ∧ Tr np w0 G0 w G (enc s).ob.length ∧ Marks w G w0.heap.size ds) →
      (w.heap[l]? = some (.loop rec) ∧ ¬ G.has l ∧ w0.heap.size ≤ l) → Slots (avoid F G) w 0 G00 slc tc → Rep (avoid F G) w (enc s).ob.length G (.isl T part) v →
      RoundIn Fence.wide 0 P l rec.fn (rec.tmps.setIfInBounds p v) rec.assign rec.body w fun e w' => e = .returned (.bool true) ∧ JS F np w0 G0 ds l rec (enc s').sl (enc s').ob tmps slc tc w')
    (hend : ∀ ac w slc, ac.defers = [] → JS F np w0 G0 ds l rec (enc s1).sl (enc s1).ob tmps slc ac.tmps w → Q (.exit 0) ac w) :
    ∀ (f k : Nat) (s : σ) (ac : Act) (w : World), xs.length - k ≤ f → k ≤ xs.length + m → ac.defers = [] → JS F np w0 G0 ds l rec (enc s).sl (enc s).ob tmps (cl l T xs m k) ac.tmps w → foldO step (chunks m f (xs.drop k)) s = some s1 →
      Code.roundsIn (Fr none) 0 P (((Code.region 1 (chunkR1 tS tI tY tB).toArray false).seq (Code.cond (Operand.tmp 9) Code.skip (Code.exit 0))).seq ((Code.block 1 ((Code.region 3 (chunkR3 tS tI tY tB).toArray true).seq ((Code.region 4 (chunkR4 tS tI tY tB).toArray false).seq (Code.cond (Operand.tmp 30) Code.ret Code.skip)))).seq (Code.region 2 (chunkR2 tS tI tY tB).toArray false))) Q (f + 1) ac w := by
  have hstop : ∀ (f k : Nat) (s : σ) (ac : Act) (w : World), ¬ k < xs.length → ac.defers = [] → JS F np w0 G0 ds l rec (enc s).sl (enc s).ob tmps (cl l T xs m k) ac.tmps w → s = s1 →
      Code.roundsIn (Fr none) 0 P (((Code.region 1 (chunkR1 tS tI tY tB).toArray false).seq (Code.cond (Operand.tmp 9) Code.skip (Code.exit 0))).seq ((Code.block 1 ((Code.region 3 (chunkR3 tS tI tY tB).toArray true).seq ((Code.region 4 (chunkR4 tS tI tY tB).toArray false).seq (Code.cond (Operand.tmp 30) Code.ret Code.skip)))).seq (Code.region 2 (chunkR2 tS tI tY tB).toArray false))) Q (f + 1) ac w := by
    intro f k s ac w hk hd hj hs
    subst hs
    rw [roundsIn_succ]
    refine wpIn_seq (wpIn_seq (wpIn_region_lit (wpL_in _ _ _ (JS.list tt (fun h hm => by cases hm) hj hd (chunk_r1 hS hI) fun ac' w' hd' hj' => ?_))))
    have hb : decide ((k : Int) < (xs.length : Int)) = false := decide_eq_false (by omega)
    refine wpIn_cond_false (hj'.bool (i := 9) (b := false) (by rw [← hb]; rfl)) (wpIn_exit ?_)
    exact hend ac' w' _ hd' hj'
  intro f
  induction f with
  | zero =>
    intro k s ac w hf hk hd hj hfold
    have hk2 : ¬ k < xs.length := by omega
    exact hstop 0 k s ac w hk2 hd hj (by simpa [chunks, foldO] using hfold)
  | succ f ih =>
    intro k s ac w hf hk hd hj hfold
    by_cases hk2 : k < xs.length
    · obtain ⟨y, ys, hy⟩ : ∃ y ys, xs.drop k = y :: ys := by
        cases h : xs.drop k with
        | nil =>
          have := congrArg List.length h
          simp at this
          omega
        | cons y ys => exact ⟨y, ys, rfl⟩
      rw [hy, chunks, ← hy, foldO] at hfold
      simp only [Option.bind_eq_some_iff] at hfold
      obtain ⟨s', hstep, hfold⟩ := hfold
      rw [List.drop_drop] at hfold
      rw [roundsIn_succ]
      refine wpIn_seq (wpIn_seq (wpIn_region_lit (wpL_in _ _ _ (JS.list tt (fun h hm => by cases hm) hj hd (chunk_r1 hS hI) fun ac1 w1 hd1 hj1 => ?_))))
      have hb : decide ((k : Int) < (xs.length : Int)) = true := decide_eq_true (by omega)
      rw [hb] at hj1
      have hj1 : JS F np w0 G0 ds l rec (enc s).sl (enc s).ob tmps (cl1 l T xs m k) ac1.tmps w1 := hj1
      refine wpIn_cond_true (hj1.bool (i := 9) (b := true) rfl) (wpIn_skip ?_)
      refine wpIn_seq (wpIn_block (wpIn_seq (JS.drw tt hmix (hs := []) (fun h hm => by cases hm) (fun h hm => by cases hm) hj1 hd1 rfl (chunk_r3 (tY := tY) (tB := tB) hS hI hz hk2) fun ac2 w2 hd2 hj2 => ?_)))
      refine wpIn_seq (wpIn_region_lit ?_)
      rw [chunk_cut tS tI tY tB]
      refine wpL_append _ _ _ _ (JS.list tt (hs := []) (fun h hm => by cases hm) hj2 hd2 (chunk_r4 (tY := tY) (tB := tB) hS hI hz hk2 (by omega) _) fun ac3 w3 hd3 hj3 => ?_)
      refine wpListIn_plain rfl fun K hK => yield_op (part := (xs.drop k).take m) (p := p) rfl hj3 cl4_19 cl4_28 hps fun G v h1 h2 h3 h4 => ?_
      refine (hround _ s s' _ _ w3 G v hstep h1 h2 h3 h4).mono ?_
      rintro e w4 ⟨rfl, hj4⟩
      refine ⟨rfl, hK _ _ ?_⟩
      have hj5 := hj4.put 29 true
      rw [cl5_eq] at hj5
      refine wpL_in _ _ _ (JS.list tt (hs := []) (fun h hm => by cases hm) hj5 hd3 (chunk_not _) fun ac6 w6 hd6 hj6 => ?_)
      refine wpIn_cond_false (hj6.bool (i := 30) (b := false) cl6_30) (wpIn_skip ?_)
      have hj7 := hj6.drops cl6_drop
      refine wpIn_region_lit (wpL_in _ _ _ (JS.list tt (hs := []) (fun h hm => by cases hm) hj7 hd6 (chunk_r2 (tY := tY) (tB := tB) hI (by omega)) fun ac8 w8 hd8 hj8 => ?_))
      exact ih (k + m) s' ac8 w8 (by omega) (by omega) hd8 (hj8.drops cl8_drop) hfold
    · have hk3 : xs.drop k = [] := List.drop_eq_nil_of_le (by omega)
      refine hstop (f + 1) k s ac w hk2 hd hj ?_
      rw [hk3] at hfold
      simpa [chunks, foldO] using hfold

/-! ### A round -/

/-- What is proved of code by recursion. -/
def CSound (F : Nat → Prop) (P : Program) (TT : Nat → TI) (N : Nat) (c : Code) : Prop :=
  ∀ (rd : Option Nat) (np : Nat) (w0 : World) (G0 : Gs) (x : Ann) {ρ : Type} (r : ρ) (st : St) (a : Act) (w : World) (kN : St → Option ρ) (kE : Nat → St → Option ρ) (kR : St → Option ρ) (Q : Exit → Act → World → Prop),
    x.ok P np N → (rd = none ∨ x.flat = true) → SR rd F np w0 G0 N st a w → absCode TT c x st kN kE kR = some r → (∀ st a w, SR rd F np w0 G0 N st a w → kN st = some r → Q .normal a w) →
    (∀ id st a w, SR rd F np w0 G0 N st a w → kE id st = some r → Q (.exit id) a w) → (∀ st a w, SR rd F np w0 G0 N st a w → kR st = some r → Q .ret a w) → c.wpIn (Fr rd) 0 P Q a w

theorem round_sound {N p : Nat} {T : Ty} {h : Spec} (hh : h.ok np N = true) {assign body : Code} (ha : CSound F P TT N assign) (hb : CSound F P TT N body) {xa xb : Ann} (hxa : xa.ok P h.objs.length N) (hxb : xb.ok P h.objs.length N) (hfa : xa.flat = true) (hfb : xb.flat = true)
    {fn : FuncId} {ps : Array Tmp} {D : Nat} {part : List T.D} {s s' : h.D} {w : World} {G : Gs} {v : Value} {slc : List AV} {tc : Array Value}
    (e : absCode TT assign xa ⟨(h.enc s).sl.set p (.isl T part), (h.enc s).ob⟩ (fun st' => absCode TT body xb st' (fun st'' => h.dec ⟨(h.enc s).sl, st''.ob⟩) (fun _ _ => none) (fun _ => none)) (fun _ _ => none) (fun _ => none) = some s')
    (h1 : Inv F w G (h.enc s).ob ∧ Slots (avoid F G) w (h.enc s).ob.length G (h.enc s).sl tmps ∧ Tr np w0 G0 w G (h.enc s).ob.length ∧ Marks w G w0.heap.size ds)
    (h2 : w.heap[l]? = some (.loop { state := .ready, pending := none, fn, tmps, params := ps, assign, body, defers := D }) ∧ ¬ G.has l ∧ w0.heap.size ≤ l) (hc : Slots (avoid F G) w 0 G00 slc tc) (hv : Rep (avoid F G) w (h.enc s).ob.length G (.isl T part) v) :
    RoundIn Fence.wide 0 P l fn (tmps.setIfInBounds p v) assign body w fun e w' => e = .returned (.bool true) ∧ JS F np w0 G0 ds l { state := .ready, pending := none, fn, tmps, params := ps, assign, body, defers := D } (h.enc s').sl (h.enc s').ob tmps slc tc w' := by
  obtain ⟨inv, hsl, htr, hm⟩ := h1
  obtain ⟨hrec, hGl, hwl⟩ := h2
  have hok := hh
  simp only [Spec.ok, Bool.and_eq_true, decide_eq_true_eq, List.all_eq_true] at hok
  obtain ⟨⟨⟨q1, q2⟩, q3⟩, _⟩ := hok
  have hN : (h.enc s).sl.length = N := by
    show (setSlots h.slots _ (List.replicate h.n AV.dead)).length = N
    rw [setSlots_length, List.length_replicate, q1]
  have hob : (h.enc s).ob.length = h.objs.length := encOs_length h.objs id h.objs (h.objs_ s)
  have hlt : l < w.heap.size := (Array.getElem?_eq_some_iff.1 hrec).1
  refine roundIn_of_wpIn trivial ?_
  refine ha (some l) h.objs.length w G xa s' ⟨(h.enc s).sl.set p (.isl T part), (h.enc s).ob⟩ { tmps := tmps.setIfInBounds p v, defers := [] } w _ _ _ _ hxa (.inr hfa)
    ⟨⟨G, inv, hsl.put hv p, ⟨Trans.refl _ _ _, by show h.objs.length ≤ (h.enc s).ob.length; rw [hob]; exact Nat.le_refl _⟩, Marks.nil, by show ((h.enc s).sl.set p _).length = N; rw [List.length_set]; exact hN⟩, fun _ => rfl⟩ e ?_ (fun id st a w _ e => by cases e) (fun st a w _ e => by cases e)
  rintro st1 a1 w1 ⟨⟨G1, inv1, hsl1, htr1, hm1, hN1⟩, hd1⟩ e1
  have hl1 := (htr1.t.frame l hlt hGl).trans hrec
  have hG1 : ¬ G1.has l := fun q => by
    rcases htr1.t.own l q with q | q
    · exact hGl q
    · omega
  have hh1 := not_holds hl1
  have hlt1 : l < w1.heap.size := (Array.getElem?_eq_some_iff.1 hl1).1
  refine ⟨_, run_beginRound hl1 rfl, ?_⟩
  refine hb (some l) h.objs.length _ G1 xb s' st1 a1 _ _ _ _ _ hxb (.inr hfb)
    ⟨⟨G1, inv1.turn hh1 hG1, hsl1.stays (turn_stays hh1), ⟨Trans.refl _ _ _, htr1.le⟩, by rw [hd1 rfl]; exact Marks.nil, hN1⟩, hd1⟩ e1 ?_ (fun id st a w _ e => by cases e) (fun st a w _ e => by cases e)
  rintro st2 a2 w3 ⟨⟨G3, inv3, hsl3, htr3, hm3, hN3⟩, hd3⟩ e3
  have hl3 := (htr3.t.frame l (by rw [World.putObj_size]; exact hlt1) hG1).trans (World.putObj_heap_same hlt1)
  have hG3 : ¬ G3.has l := fun q => by
    rcases htr3.t.own l q with q | q
    · exact hG1 q
    · rw [World.putObj_size] at q; omega
  have hh3 := not_holds hl3
  have hlt3 : l < w3.heap.size := (Array.getElem?_eq_some_iff.1 hl3).1
  have t1 : Tr np w0 G0 w1 G1 h.objs.length := (htr.lower (n' := h.objs.length) q3).step htr1.t (Nat.le_refl _)
  have t3 := (t1.turn (l := l) (o := .loop { state := .busy, pending := none, fn, tmps, params := ps, assign, body, defers := D }) hwl).step htr3.t htr3.le
  have t4 := t3.turn (l := l) (o := .loop { state := .ready, pending := none, fn, tmps, params := ps, assign, body, defers := D }) hwl
  rw [hob] at hsl
  have r3 := ((hsl.stays (htr1.t.stays (Nat.le_refl _))).stays (turn_stays hh1)).stays (htr3.t.stays htr3.le)
  have m2 := (hm.step htr1.t).turn (o := .loop { state := .busy, pending := none, fn, tmps, params := ps, assign, body, defers := D }) ((hm.step htr1.t).loop hl1)
  have m3 := m2.step htr3.t
  have m4 := m3.turn (o := .loop { state := .ready, pending := none, fn, tmps, params := ps, assign, body, defers := D }) (m3.loop hl3)
  have c3 := ((hc.stays htr1.t.stays0).stays (turn_stays hh1)).stays htr3.t.stays0
  obtain ⟨G', hsub, inv5, sl5, tr5, mk5, _⟩ := spec_soundG hh (st := ⟨(h.enc s).sl, st2.ob⟩) (a := { tmps := tmps, defers := ds }) ⟨inv3.turn hh3 hG3, r3.stays (turn_stays hh3), t4, m4, hN⟩ e3
  exact ⟨_, _, run_endRound none hl3, rfl, G', ⟨inv5, sl5, tr5, mk5⟩, ⟨World.putObj_heap_same hlt3, fun q => hG3 (hsub _ q), hwl⟩, (c3.stays (turn_stays hh3)).stays (sub_stays0 hsub)⟩

/-! ### The statement -/

theorem chunkOf_spec {fid tS tI : Nat} {T : Ty} {g : AV} {ps : List Nat} {xs : List T.D} {n : Int} {p : Nat} (h : chunkOf TT fid tS tI T g ps = some (xs, n, p)) :
    (∃ e, (TT tS).kind = .sl e ∧ (TT e).size = T.size ∧ (TT e).kind.isOther = false) ∧ (TT tI).kind = .int .i64 ∧ ps = [p] ∧ g = .fn (.func fid) [] [.iptr (.sl T) xs 0, .iptr (.int .i64) n 0] := by
  unfold chunkOf at h
  split at h
  case h_2 => cases h
  rename_i f T' xs' n' p' e hS hI
  split at h
  case isFalse => cases h
  rename_i hc
  obtain ⟨rfl, hz, hk⟩ := hc
  split at h
  case isFalse => cases h
  rename_i hT
  subst hT
  simp only [castD_self, Option.some.injEq, Prod.mk.injEq] at h
  obtain ⟨rfl, rfl, rfl⟩ := h
  exact ⟨⟨e, hS, hz, hk⟩, hI, rfl, rfl⟩

theorem rep_fn2 {A : Nat → Prop} {w : World} {n : Nat} {G : Gs} {f : Fn} {x y : AV} {v : Value} (h : Rep A w n G (.fn f [] [x, y]) v) : ∃ u z, v = .func f #[] #[u, z] ∧ Rep A w n G x u ∧ Rep A w n G y z := by
  cases h with
  | fn _ _ _ vf vc h1 h2 _ hc =>
    have e1 : vf = #[] := Array.eq_empty_of_size_eq_zero h1.symm
    have hs : vc.size = 2 := h2.symm
    refine ⟨vc.getD 0 undef, vc.getD 1 undef, ?_, hc 0 (by simp), hc 1 (by simp)⟩
    rw [e1]
    congr 1
    apply Array.ext
    · simp [hs]
    · intro i hi hi'
      have : i = 0 ∨ i = 1 := by omega
      rcases this with rfl | rfl <;> simp [Array.getD, hs]

theorem getD_dead {n i : Nat} : (List.replicate n AV.dead).getD i .dead = .dead := by
  by_cases h : i < n
  · simp only [List.getD, List.getElem?_replicate, if_pos h, Option.getD_some]
  · simp only [List.getD, List.getElem?_replicate, if_neg h, Option.getD_none]

theorem range_sound (tt : TTok P TT) (hmix : P.follows .mixedOrders = true) {N : Nat} {assign body : Code} (ha : CSound F P TT N assign) (hb : CSound F P TT N body) {fid tS tI : Nat} {T : Ty} {h : Spec} {xa xb : Ann} (hx : (Ann.chunk fid tS tI T h xa xb).ok P np N)
    {g : Operand} {ps : Array Tmp} {st : St} {a : Act} {w : World} (hS : S F np w0 G0 N st a w) {xs : List T.D} {n : Int} {p : Nat} (hc : chunkOf TT fid tS tI T (ev st.sl g) ps.toList = some (xs, n, p)) (hn : 1 ≤ n ∧ n + xs.length ≤ 9223372036854775807)
    {s0 s1 : h.D} (e0 : h.dec st = some s0)
    (e1 : foldO (fun part s => absCode TT assign xa ⟨(h.enc s).sl.set p (.isl T part), (h.enc s).ob⟩ (fun st' => absCode TT body xb st' (fun st'' => h.dec ⟨(h.enc s).sl, st''.ob⟩) (fun _ _ => none) (fun _ => none)) (fun _ _ => none) (fun _ => none)) (chunks n.toNat xs.length xs) s0 = some s1)
    {Q : Exit → Act → World → Prop} (hQ : ∀ a' w', S F np w0 G0 N (h.enc s1) a' w' → Q .normal a' w') : (Code.rangeFunc g ps assign body).wpIn (Fr none) 0 P Q a w := by
  obtain ⟨hh, ⟨cf, tY, tB, hf, hbd, hnt, hres, hnm⟩, ⟨hfa, hfb⟩, hxa, hxb⟩ := hx
  obtain ⟨⟨e, hkS, hz⟩, hkI, hps, hg⟩ := chunkOf_spec hc
  have hps : ps = #[p] := by
    apply Array.ext'
    exact hps
  obtain ⟨G, hS⟩ := hS
  have hgv := hS.2.1.ev g
  rw [hg] at hgv
  obtain ⟨u, z, hval, hu, hzz⟩ := rep_fn2 hgv
  obtain ⟨G', hsub, inv, hsl, htr, hm, hN⟩ := spec_soundG hh hS e0
  have hu : Rep (avoid F G') w 0 G00 (.iptr (.sl T) xs 0) u := (hu.flat (A' := avoid F G) (n' := 0) (G' := G00) (fun _ h => h) rfl).stays (sub_stays0 hsub)
  have hzz : Rep (avoid F G') w 0 G00 (.iptr (.int .i64) n 0) z := (hzz.flat (A' := avoid F G) (n' := 0) (G' := G00) (fun _ h => h) rfl).stays (sub_stays0 hsub)
  refine wpIn_rangeFunc fun fn _ => ?_
  obtain ⟨w1, hw1⟩ : ∃ w1, w1 = (w.alloc (.deferred (some []))).alloc (.loop { state := .ready, pending := none, fn, tmps := a.tmps, params := ps, assign, body, defers := w.heap.size }) := ⟨_, rfl⟩
  have hsz : w1.heap.size = w.heap.size + 2 := by rw [hw1, World.size_alloc, World.size_alloc]
  have hL : w1.heap[w.heap.size + 1]? = some (.loop { state := .ready, pending := none, fn, tmps := a.tmps, params := ps, assign, body, defers := w.heap.size }) := by
    rw [hw1]
    have := World.alloc_heap_new (w.alloc (.deferred (some []))) (.loop { state := .ready, pending := none, fn, tmps := a.tmps, params := ps, assign, body, defers := w.heap.size })
    rwa [World.size_alloc] at this
  have hD : w1.heap[w.heap.size]? = some (.deferred (some [])) := by
    rw [hw1, heap_alloc_old _ _ _ (by rw [World.size_alloc]; omega)]
    exact World.alloc_heap_new w _
  have hold : ∀ b, b < w.heap.size → w1.heap[b]? = w.heap[b]? := fun b hb => by
    rw [hw1, heap_alloc_old _ _ _ (by rw [World.size_alloc]; omega), heap_alloc_old _ _ _ hb]
  obtain ⟨g1, g2⟩ := inv.grow (w' := w1) (by rw [hw1]; rfl) (by rw [hw1]; rfl) (by rw [hw1]; rfl) (by omega) hold
  have hGs : ∀ b, G'.has b → b < w.heap.size := fun b ⟨j, gh, hj, hb⟩ => (inv.free j gh b hj hb).2
  have hm1 : Marks w1 G' w0.heap.size ([{ target := .collected w.heap.size, args := #[] }] ++ a.defers) := by
    have hm2 := hm.step g2
    refine ⟨fun d hd => ?_, ?_⟩
    · rcases List.mem_append.1 hd with hd | hd
      · simp only [List.mem_singleton] at hd
        subst hd
        exact ⟨_, rfl, hD, fun q => Nat.lt_irrefl _ (hGs _ q), htr.t.size⟩
      · exact hm2.1 d hd
    · rw [List.singleton_append]
      refine List.Pairwise.cons (fun d hd hq => ?_) hm2.2
      obtain ⟨D, k1, k2, _⟩ := hm.1 d hd
      rw [k1] at hq
      simp only [Target.collected.injEq] at hq
      have := (Array.getElem?_eq_some_iff.1 k2).1
      omega
  have hlen3 : (#[Value.func (.yield (w.heap.size + 1)) #[] #[]] ++ #[u, z] : Array Value).size = 3 := rfl
  refine ⟨w.heap.size + 1, [{ target := .collected w.heap.size, args := #[] }], w1, { target := .fn (.func fid) #[u, z], args := #[.func (.yield (w.heap.size + 1)) #[] #[]] }, w1, fid, #[.func (.yield (w.heap.size + 1)) #[] #[]] ++ #[u, z], w1, ?_, ?_, fun _ _ => trivial, ?_, (fun h => by cases h), ?_⟩
  · rw [hw1]; exact run_enterLoop_outer _ _ _ _ _
  · simp only [resolve, hval]
    simp [go_sem]
  · simp [invoke, callFunc, hf, hbd, hnm]
  · refine callsIn_of_wp hf hbd trivial ?_
    rw [hnt, hlen3]
    have hn2 : ((n.toNat : Nat) : Int) = n := by omega
    have hj : JS F np w0 G0 ([{ target := .collected w.heap.size, args := #[] }] ++ a.defers) (w.heap.size + 1) { state := .ready, pending := none, fn, tmps := a.tmps, params := ps, assign, body, defers := w.heap.size } (h.enc s0).sl (h.enc s0).ob a.tmps
        (cl0 (w.heap.size + 1) T xs (n.toNat : Nat)) (#[.func (.yield (w.heap.size + 1)) #[] #[]] ++ #[u, z] ++ Array.replicate (31 - 3) undef) w1 := by
      refine ⟨G', ⟨g1, hsl.stays (g2.stays (Nat.le_refl _)), htr.step g2 (Nat.le_refl _), hm1⟩, ⟨hL, fun q => by have := hGs _ q; omega, by have := htr.t.size; omega⟩, by simp [cl0], fun i hi => ?_⟩
      have st0 := g2.stays0 (F := F)
      have e0 : (#[Value.func (.yield (w.heap.size + 1)) #[] #[]] ++ #[u, z] ++ Array.replicate (31 - 3) undef).getD 0 undef = .func (.yield (w.heap.size + 1)) #[] #[] := by simp [Array.getD]
      have e1 : (#[Value.func (.yield (w.heap.size + 1)) #[] #[]] ++ #[u, z] ++ Array.replicate (31 - 3) undef).getD 1 undef = u := by simp [Array.getD]
      have e2 : (#[Value.func (.yield (w.heap.size + 1)) #[] #[]] ++ #[u, z] ++ Array.replicate (31 - 3) undef).getD 2 undef = z := by simp [Array.getD]
      generalize (#[Value.func (.yield (w.heap.size + 1)) #[] #[]] ++ #[u, z] ++ Array.replicate (31 - 3) undef) = ar at e0 e1 e2
      match i with
      | 0 =>
        rw [e0]
        exact .fn _ [] [] #[] #[] rfl rfl (fun i hi => by cases hi) (fun i hi => by cases hi)
      | 1 =>
        rw [e1]
        exact hu.stays st0
      | 2 =>
        rw [e2]
        show Rep _ _ _ _ (.iptr (.int .i64) ((n.toNat : Nat) : Int) 0) z
        rw [hn2]
        exact hzz.stays st0
      | i + 3 =>
        have e : (cl0 (w.heap.size + 1) T xs (n.toNat : Nat)).getD (i + 3) .dead = (List.replicate 28 AV.dead).getD i .dead := rfl
        rw [e, getD_dead]
        exact .dead _
    refine wpIn_seq (wpIn_region_lit (wpL_in (rd := none) _ _ _ (JS.list tt (hs := []) (fun h hm => by cases hm) hj rfl chunk_r0 fun ac2 w2 hd2 hj2 => ?_)))
    refine wpIn_block (wpIn_loop_rounds (xs.length + 1) ?_)
    have hj2 : JS F np w0 G0 ([{ target := .collected w.heap.size, args := #[] }] ++ a.defers) (w.heap.size + 1) { state := .ready, pending := none, fn, tmps := a.tmps, params := ps, assign, body, defers := w.heap.size } (h.enc s0).sl (h.enc s0).ob a.tmps
        (cl (w.heap.size + 1) T xs (n.toNat : Nat) (0 : Nat)) ac2.tmps w2 := hj2
    refine chunk_loop tt hmix (enc := h.enc) (p := p) hkS hkI hz hps (by omega) (by omega) (fun part s s' slc tc w G v e h1 h2 hc hv => round_sound hh ha hb hxa hxb hfa hfb e h1 h2 hc hv) ?_ xs.length 0 s0 ac2 w2 (Nat.sub_le _ _) (Nat.zero_le _) hd2 hj2 (by rw [List.drop_zero]; exact e1)
    intro ac3 w3 slc hd3 hj3
    obtain ⟨G3, ⟨i1, i2, i3, i4⟩, ⟨k1, k2, k3⟩, _⟩ := hj3
    have hh3 := not_holds k1
    simp only [Exit.inBlock, if_true]
    refine ⟨hd3, _, results_none hres _ _ _, none, _, run_endLoop k1 (by simp), ?_⟩
    refine hQ _ _ ⟨G3, i1.turn hh3 k2, i2.stays (turn_stays hh3), i3.turn k3, i4.turn (i4.loop k1), ?_⟩
    have hok := hh
    simp only [Spec.ok, Bool.and_eq_true, decide_eq_true_eq, List.all_eq_true] at hok
    obtain ⟨⟨⟨q1, _⟩, _⟩, _⟩ := hok
    show (setSlots h.slots _ (List.replicate h.n AV.dead)).length = N
    rw [setSlots_length, List.length_replicate, q1]
end
end Go.Proofs.YtlbammfnkphajaaGreatDoor.Abs
