/- A range over slices.Chunk's function: the function's walk; the rounds. -/
import Derived.Test.YtlbammfnkphajaaGreatDoorAbsRegs
namespace Go.Proofs.YtlbammfnkphajaaGreatDoor.Abs
open Go
set_option linter.unusedVariables false

section
variable {F : Nat → Prop} {P : Program} {TT : Nat → TI}

/-! ### What holds no data turns -/

theorem not_holds {w : World} {l : Nat} {rec : Loop} (h : w.heap[l]? = some (.loop rec)) : ¬ holds w l := by
  rintro (⟨o, v, hv⟩ | ⟨ms, c, hm⟩)
  · simp [World.cell?, h] at hv
  · rw [h] at hm; cases hm

theorem not_holds_def {w : World} {l : Nat} {ds : Option (List Deferred)} (h : w.heap[l]? = some (.deferred ds)) : ¬ holds w l := by
  rintro (⟨o, v, hv⟩ | ⟨ms, c, hm⟩)
  · simp [World.cell?, h] at hv
  · rw [h] at hm; cases hm

theorem turn_stays {A : Nat → Prop} {w : World} {n : Nat} {G : Gs} {l : Nat} {o : Obj} (h : ¬ holds w l) : Stays A w n G A (w.putObj l o) n G :=
  ⟨fun b _ hd hA => ⟨World.putObj_heap_other (fun e => h (e ▸ hd)), hA⟩, Nat.le_refl _, fun _ _ => .inr rfl⟩

theorem Inv.turn {w : World} {G : Gs} {ob : List AO} (inv : Inv F w G ob) {l : Nat} {o : Obj} (h : ¬ holds w l) (hl : ¬ G.has l) : Inv F (w.putObj l o) G ob :=
  ⟨inv.dom, fun j hj g hg => (inv.live j hj g hg).stays (turn_stays h) (fun b hb => World.putObj_heap_other (fun e => hl ⟨j, g, hg, e ▸ hb⟩)), inv.there, inv.inj,
    fun j g b hg hb => ⟨(inv.free j g b hg hb).1, by rw [World.putObj_size]; exact (inv.free j g b hg hb).2⟩, fun b hb => by rw [World.putObj_size]; exact inv.old b hb⟩

theorem Tr.turn {np : Nat} {w0 w : World} {G0 G : Gs} {n : Nat} (h : Tr np w0 G0 w G n) {l : Nat} {o : Obj} (hl : w0.heap.size ≤ l) : Tr np w0 G0 (w.putObj l o) G n :=
  ⟨⟨h.t.os, h.t.tape, h.t.output, by rw [World.putObj_size]; exact h.t.size, fun b hb hn => (World.putObj_heap_other (by omega)).trans (h.t.frame b hb hn), h.t.own, h.t.keep⟩, h.le⟩

theorem Tr.lower {np : Nat} {w0 w : World} {G0 G : Gs} {n n' : Nat} (h : Tr np w0 G0 w G n) (hn : np ≤ n') : Tr np w0 G0 w G n' := ⟨h.t, hn⟩

theorem Marks.turn {w : World} {G : Gs} {n0 : Nat} {ds : List Deferred} (h : Marks w G n0 ds) {l : Nat} {o : Obj} (hl : ∀ d ∈ ds, d.target ≠ .collected l) : Marks (w.putObj l o) G n0 ds :=
  ⟨fun d hd => let ⟨D, h1, h2, h3, h4⟩ := h.1 d hd; ⟨D, h1, (World.putObj_heap_other (fun e => hl d hd (by rw [h1, e]))).trans h2, h3, h4⟩, h.2⟩

theorem Marks.loop {w : World} {G : Gs} {n0 : Nat} {ds : List Deferred} (h : Marks w G n0 ds) {l : Nat} {rec : Loop} (hl : w.heap[l]? = some (.loop rec)) : ∀ d ∈ ds, d.target ≠ .collected l := by
  intro d hd e
  obtain ⟨D, h1, h2, _⟩ := h.1 d hd
  rw [h1] at e
  cases e
  rw [hl] at h2; cases h2

/-- No objects. -/
abbrev G00 : Gs := fun _ => none

theorem Trans.stays0 {n : Nat} {w w' : World} {G G' : Gs} (t : Trans n w G w' G') : Stays (avoid F G) w 0 G00 (avoid F G') w' 0 G00 where
  blocks b hb _ hA := ⟨t.frame b hb fun h => hA (.inr h), fun h => by
    rcases h with h | h
    · exact hA (.inl h)
    · rcases t.own b h with h | h
      · exact hA (.inr h)
      · omega⟩
  le := Nat.le_refl _
  keep _ h := by cases h

theorem sub_stays0 {w : World} {G G' : Gs} (h : ∀ b, G'.has b → G.has b) : Stays (avoid F G) w 0 G00 (avoid F G') w 0 G00 where
  blocks b _ _ hA := ⟨rfl, fun q => hA (q.imp id (h b))⟩
  le := Nat.le_refl _
  keep _ h := by cases h

/-! ### The function's state beside the caller's -/

/-- The caller's state (slots sl, objects ob), the loop's record, the function's slots. -/
def JS (F : Nat → Prop) (np : Nat) (w0 : World) (G0 : Gs) (ds : List Deferred) (l : Nat) (rec : Loop) (sl : List AV) (ob : List AO) (tmps : Array Value) (slc : List AV) (tc : Array Value) (w : World) : Prop :=
  ∃ G, (Inv F w G ob ∧ Slots (avoid F G) w ob.length G sl tmps ∧ Tr np w0 G0 w G ob.length ∧ Marks w G w0.heap.size ds) ∧ (w.heap[l]? = some (.loop rec) ∧ ¬ G.has l ∧ w0.heap.size ≤ l) ∧ Slots (avoid F G) w 0 G00 slc tc

section
variable {np : Nat} {w0 : World} {G0 : Gs} {ds : List Deferred} {l : Nat} {rec : Loop} {sl : List AV} {ob : List AO} {tmps : Array Value}

theorem chunk_S {w : World} {G : Gs} {slc : List AV} {ac : Act} (inv : Inv F w G ob) (hc : Slots (avoid F G) w 0 G00 slc ac.tmps) (hd : ac.defers = []) : S (avoid F G) 0 w G00 slc.length ⟨slc, []⟩ ac w :=
  ⟨G00, ⟨(fun _ _ h => by cases h), (fun _ h => absurd h (Nat.not_lt_zero _)), (fun _ h => absurd h (Nat.not_lt_zero _)), (fun _ _ _ _ _ h => by cases h), (fun _ _ _ h => by cases h), fun b hb => by
    rcases hb with hb | ⟨j, g, hg, hgb⟩
    · exact inv.old b hb
    · exact (inv.free j g b hg hgb).2⟩,
   ⟨hc.1, fun i hi => (hc.2 i hi).mono fun b hb => by
    rcases hb with hb | ⟨j, g, hg, _⟩
    · exact hb
    · cases hg⟩, ⟨Trans.refl _ _ _, Nat.le_refl _⟩, by rw [hd]; exact Marks.nil, rfl⟩

theorem chunk_back {w w' : World} {G : Gs} {slc : List AV} {ac : Act} {M : Nat} (h : Inv F w G ob ∧ Slots (avoid F G) w ob.length G sl tmps ∧ Tr np w0 G0 w G ob.length ∧ Marks w G w0.heap.size ds)
    (hr : w.heap[l]? = some (.loop rec) ∧ ¬ G.has l ∧ w0.heap.size ≤ l) (hS : S (avoid F G) 0 w G00 M ⟨slc, []⟩ ac w') : JS F np w0 G0 ds l rec sl ob tmps slc ac.tmps w' := by
  obtain ⟨inv, hsl, htr, hm⟩ := h
  obtain ⟨G1, inv1, hsl1, htr1, _, _⟩ := hS
  have hG : G1 = G00 := by
    funext j
    cases e : G1 j with
    | none => rfl
    | some g => exact absurd (inv1.dom j g e) (Nat.not_lt_zero _)
  subst hG
  have hno : ∀ b, ¬ Gs.has G00 b := fun b ⟨_, _, h, _⟩ => by cases h
  obtain ⟨g1, g2⟩ := inv.grow htr1.t.os htr1.t.tape htr1.t.output htr1.t.size (fun b hb => htr1.t.frame b hb (hno b))
  refine ⟨G, ⟨g1, hsl.stays (g2.stays (Nat.le_refl _)), htr.step g2 (Nat.le_refl _), hm.step g2⟩, ⟨(htr1.t.frame l (Array.getElem?_eq_some_iff.1 hr.1).1 (hno l)).trans hr.1, hr.2⟩, hsl1.1, fun i hi => (hsl1.2 i hi).mono fun b hb => .inl hb⟩

/-- Operations of the function's. -/
theorem JS.list (tt : TTok P TT) {ops : Array Oper} {Q : Exit → Act → World → Prop} {os : List Oper} {hs : List OA} (hok : ∀ h ∈ hs, OAok P h) {slc slc' : List AV} {ac : Act} {w : World} (h : JS F np w0 G0 ds l rec sl ob tmps slc ac.tmps w)
    (hd : ac.defers = []) (e : opsK TT ops.toList os hs ⟨slc, []⟩ some = some ⟨slc', []⟩) (hk : ∀ ac' w', ac'.defers = [] → JS F np w0 G0 ds l rec sl ob tmps slc' ac'.tmps w' → Q .normal ac' w') : wpL P ops Q os ac w := by
  obtain ⟨G, h1, h2, hc⟩ := h
  exact opsK_sound tt (k := some) (r := (⟨slc', []⟩ : St)) (d0 := []) (fun st a w' h0 hS e => by cases e; exact hk a w' h0 (chunk_back h1 h2 hS)) os hs _ ac w hok hd (chunk_S h1.1 hc hd) e

theorem JS.drw (tt : TTok P TT) (hmix : P.follows .mixedOrders = true) {id : Nat} {ops : Array Oper} {Q : Exit → Act → World → Prop} {hs : List OA} (hok : ∀ h ∈ hs, OAok P h) (hnat : ∀ h ∈ hs, h.nat) {slc slc' : List AV} {ac : Act} {w : World} (h : JS F np w0 G0 ds l rec sl ob tmps slc ac.tmps w)
    (hd : ac.defers = []) (hdr : drwOk ops.toList hs = true) (e : opsK TT ops.toList ops.toList hs ⟨slc, []⟩ some = some ⟨slc', []⟩) (hk : ∀ ac' w', ac'.defers = [] → JS F np w0 G0 ds l rec sl ob tmps slc' ac'.tmps w' → Q .normal ac' w') :
    (Code.region id ops true).wpIn (Fr none) 0 P Q ac w := by
  obtain ⟨G, h1, h2, hc⟩ := h
  exact draw_sound tt hmix (k := some) (r := (⟨slc', []⟩ : St)) (d0 := []) hok hnat hdr hd (chunk_S h1.1 hc hd) e (fun st a w' h0 hS e => by cases e; exact hk a w' h0 (chunk_back h1 h2 hS))

/-- What is no longer looked at. -/
theorem JS.drop {slc slc' : List AV} {tc : Array Value} {w : World} (h : JS F np w0 G0 ds l rec sl ob tmps slc tc w) (hl : slc'.length = slc.length) (hs : ∀ i, i < slc.length → slc'.getD i .dead = slc.getD i .dead ∨ slc'.getD i .dead = .dead) :
    JS F np w0 G0 ds l rec sl ob tmps slc' tc w := by
  obtain ⟨G, h1, h2, hc⟩ := h
  refine ⟨G, h1, h2, by rw [hl]; exact hc.1, fun i hi => ?_⟩
  rw [hl] at hi
  rcases hs i hi with e | e
  · rw [e]; exact hc.2 i hi
  · rw [e]; exact .dead _

def dropOk : List AV → List AV → Prop
  | [], [] => True
  | x :: r, y :: s => (y = x ∨ y = .dead) ∧ dropOk r s
  | _, _ => False

theorem dropOk_get : ∀ {l l' : List AV}, dropOk l l' → l'.length = l.length ∧ ∀ i, i < l.length → l'.getD i .dead = l.getD i .dead ∨ l'.getD i .dead = .dead
  | [], [], _ => ⟨rfl, fun i hi => absurd hi (Nat.not_lt_zero _)⟩
  | [], _ :: _, h => h.elim
  | _ :: _, [], h => h.elim
  | x :: r, y :: s, h => by
    obtain ⟨h1, h2⟩ := dropOk_get h.2
    refine ⟨by simp [h1], fun i hi => ?_⟩
    cases i with
    | zero => simpa using h.1
    | succ i => simpa using h2 i (by simpa using hi)

theorem JS.drops {slc slc' : List AV} {tc : Array Value} {w : World} (h : JS F np w0 G0 ds l rec sl ob tmps slc tc w) (hd : dropOk slc slc') : JS F np w0 G0 ds l rec sl ob tmps slc' tc w :=
  h.drop (dropOk_get hd).1 (dropOk_get hd).2

theorem JS.put {slc : List AV} {ac : Act} {w : World} (h : JS F np w0 G0 ds l rec sl ob tmps slc ac.tmps w) (d : Nat) (b : Bool) : JS F np w0 G0 ds l rec sl ob tmps (slc.set d (.bool b)) (ac.put (some d) (.bool b)).tmps w := by
  obtain ⟨G, h1, h2, hc⟩ := h
  exact ⟨G, h1, h2, hc.put (.bool b) d⟩

theorem JS.bool {slc : List AV} {ac : Act} {w : World} (h : JS F np w0 G0 ds l rec sl ob tmps slc ac.tmps w) {i : Nat} {b : Bool} (hb : slc.getD i .dead = .bool b) : ac.eval (.tmp i) = .bool b := by
  obtain ⟨G, _, _, hc⟩ := h
  have := hc.eval (a := ac) i
  rw [hb] at this
  show ac.tmps.getD i undef = _
  generalize ac.tmps.getD i undef = v at this
  cases this
  rfl

theorem JS.eval {slc : List AV} {ac : Act} {w : World} (h : JS F np w0 G0 ds l rec sl ob tmps slc ac.tmps w) (i : Nat) : ∃ A n G, Rep A w n G (slc.getD i .dead) (ac.eval (.tmp i)) := by
  obtain ⟨G, _, _, hc⟩ := h
  exact ⟨_, _, _, hc.eval (a := ac) i⟩
end
end
end Go.Proofs.YtlbammfnkphajaaGreatDoor.Abs
