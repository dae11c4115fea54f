/- Regions; typed cuts. -/
import Derived.Test.YtlbammfnkphajaaGreatDoorAbsDraw
import Derived.Test.YtlbammfnkphajaaGreatDoorAbsShape
import Derived.Test.YtlbammfnkphajaaGreatDoorAbsWide
namespace Go.Proofs.YtlbammfnkphajaaGreatDoor.Abs
open Go
set_option linter.unusedVariables false

section
variable {F : Nat → Prop} {P : Program} {TT : Nat → TI} {ρ : Type} {r : ρ} {np : Nat} {w0 : World} {G0 : Gs} {N : Nat}

/-! ### The state and the world -/

/-- What became of the world since a call began. -/
structure Tr (np : Nat) (w0 : World) (G0 : Gs) (w : World) (G : Gs) (n : Nat) : Prop where
  t : Trans np w0 G0 w G
  le : np ≤ n

theorem Tr.step {np : Nat} {w0 w w' : World} {G0 G G' : Gs} {n n' : Nat} (h : Tr np w0 G0 w G n) (t : Trans n w G w' G') (hn : n ≤ n') : Tr np w0 G0 w' G' n' := ⟨h.t.trans t h.le, Nat.le_trans h.le hn⟩

/-- What has been laid for the rounds' deferred calls: nothing is deferred. -/
def Marks (w : World) (G : Gs) (n0 : Nat) (ds : List Deferred) : Prop :=
  (∀ d ∈ ds, ∃ D, d.target = .collected D ∧ w.heap[D]? = some (.deferred (some [])) ∧ ¬ G.has D ∧ n0 ≤ D) ∧ ds.Pairwise fun d e => d.target ≠ e.target

theorem Marks.nil {w : World} {G : Gs} {n0 : Nat} : Marks w G n0 [] := ⟨(fun d h => by cases h), List.Pairwise.nil⟩

theorem Marks.sub {w : World} {G G' : Gs} {n0 : Nat} {ds : List Deferred} (h : Marks w G n0 ds) (hs : ∀ b, G'.has b → G.has b) : Marks w G' n0 ds :=
  ⟨fun d hd => let ⟨D, h1, h2, h3, h4⟩ := h.1 d hd; ⟨D, h1, h2, fun q => h3 (hs D q), h4⟩, h.2⟩

theorem Marks.step {w w' : World} {G G' : Gs} {n n0 : Nat} {ds : List Deferred} (h : Marks w G n0 ds) (t : Trans n w G w' G') : Marks w' G' n0 ds :=
  ⟨fun d hd => by
    obtain ⟨D, h1, h2, h3, h4⟩ := h.1 d hd
    have hlt : D < w.heap.size := (Array.getElem?_eq_some_iff.1 h2).1
    refine ⟨D, h1, (t.frame D hlt h3).trans h2, fun q => ?_, h4⟩
    rcases t.own D q with q | q
    · exact h3 q
    · omega, h.2⟩

/-- What holds between the abstract state and the model's frame and world, in a call that began in w0 with np objects at the places G0. -/
def S (F : Nat → Prop) (np : Nat) (w0 : World) (G0 : Gs) (N : Nat) (st : St) (a : Act) (w : World) : Prop :=
  ∃ G, Inv F w G st.ob ∧ Slots (avoid F G) w st.ob.length G st.sl a.tmps ∧ Tr np w0 G0 w G st.ob.length ∧ Marks w G w0.heap.size a.defers ∧ st.sl.length = N

theorem put_defers (a : Act) (d : Option Tmp) (v : Value) : (a.put d v).defers = a.defers := by cases d <;> rfl

theorem Slots.putO {A : Nat → Prop} {w : World} {n : Nat} {G : Gs} {sl : List AV} {a : Act} (h : Slots A w n G sl a.tmps) {x : AV} {v : Value} (hx : Rep A w n G x v) (d : Option Nat) (ob : List AO) :
    Slots A w n G (({ sl := sl, ob := ob } : St).put d x).sl (a.put d v).tmps ∧ (({ sl := sl, ob := ob } : St).put d x).sl.length = sl.length ∧ (({ sl := sl, ob := ob } : St).put d x).ob = ob := by
  cases d with
  | none => exact ⟨h, rfl, rfl⟩
  | some d => exact ⟨h.put hx d, by simp [St.put], rfl⟩

/-! ### Arrays that are given up -/

theorem frz1_rep {w : World} {G : Gs} {ob : List AO} (inv : Inv F w G ob) {j : Nat} {T : Ty} {xs : List T.D} (ho : ob.getD j .dead = .arr T xs) {x : AV} {v : Value} (hx : Rep (avoid F G) w ob.length G x v) :
    Rep (avoid F fun i => if i = j then none else G i) w ob.length (fun i => if i = j then none else G i) (frz1 j T xs x) v := by
  have hA : ∀ b, avoid F (fun i => if i = j then none else G i) b → F b ∨ ∃ j' g, G j' = some g ∧ g.blk = some b ∧ j' ≠ j := by
    rintro b (h | ⟨i, g, hg, hb⟩)
    · exact .inl h
    · by_cases e : i = j
      · simp [e] at hg
      · simp only [e, if_false] at hg
        exact .inr ⟨i, g, hg, hb, e⟩
  have hA2 : ∀ b, avoid F (fun i => if i = j then none else G i) b → avoid F G b := fun b hb => by
    rcases hA b hb with h | ⟨i, g, h1, h2, _⟩
    · exact .inl h
    · exact .inr ⟨i, g, h1, h2⟩
  have st : Stays (avoid F G) w ob.length G (avoid F fun i => if i = j then none else G i) w ob.length (fun i => if i = j then none else G i) :=
    ⟨fun b _ _ hb => ⟨rfl, fun h => hb (hA2 b h)⟩, Nat.le_refl _, fun i _ => by
      by_cases e : i = j
      · exact .inl (by simp [e])
      · exact .inr (by simp [e])⟩
  cases x <;> simp only [frz1] <;> try exact hx.stays st
  · rename_i i
    split
    · rename_i e
      subst e
      exact frozen_rep inv (x := .slw i) (by simp only [listOf]; rw [ho]; exact dif_pos rfl) rfl rfl hx hA
    · exact hx.stays st
  · rename_i i off len
    split
    · rename_i e
      subst e
      exact frozen_rep inv (x := .sl i off len) (by simp only [listOf]; rw [ho]; exact dif_pos rfl) rfl rfl hx hA
    · exact hx.stays st

theorem frzA_rep {w : World} {G : Gs} {ob : List AO} (inv : Inv F w G ob) {j : Nat} {T : Ty} {xs : List T.D} (ho : ob.getD j .dead = .arr T xs) {x : AV} {v : Value} (hx : Rep (avoid F G) w ob.length G x v) :
    Rep (avoid F fun i => if i = j then none else G i) w ob.length (fun i => if i = j then none else G i) (frzA j T xs x) v := by
  cases x <;> simp only [frzA] <;> try exact frz1_rep inv ho hx
  · rename_i cs
    cases hx with
    | agg _ vs hl hr =>
      refine .agg _ vs (by simpa using hl) fun i hi => ?_
      have hi' : i < cs.length := by simpa using hi
      have e : (cs.map (frz1 j T xs)).getD i .dead = frz1 j T xs (cs.getD i .dead) := by simp [List.getD, hi']
      rw [e]; exact frz1_rep inv ho (hr i hi')
  · rename_i cs
    cases hx with
    | tup _ vs hl hr =>
      refine .tup _ vs (by simpa using hl) fun i hi => ?_
      have hi' : i < cs.length := by simpa using hi
      have e : (cs.map (frz1 j T xs)).getD i .dead = frz1 j T xs (cs.getD i .dead) := by simp [List.getD, hi']
      rw [e]; exact frz1_rep inv ho (hr i hi')

theorem frz_sound {st : St} {a : Act} {w : World} (h : S F np w0 G0 N st a w) (j : Nat) : S F np w0 G0 N (st.frz j) a w := by
  obtain ⟨G, inv, hsl, htr, hdf, hN⟩ := h
  unfold St.frz
  split
  case h_2 => exact ⟨G, inv, hsl, htr, hdf, hN⟩
  rename_i T xs ho
  have hlen : ((st.ob.map (frzO j T xs)).set j AO.dead).length = st.ob.length := by simp
  have hhas : ∀ b, Gs.has (fun i => if i = j then none else G i) b → G.has b := by
    rintro b ⟨i, g, hg, hb⟩
    by_cases e : i = j
    · simp [e] at hg
    · simp only [e, if_false] at hg; exact ⟨i, g, hg, hb⟩
  have hA2 : ∀ b, avoid F (fun i => if i = j then none else G i) b → avoid F G b := fun b hb => by
    rcases hb with h | h
    · exact .inl h
    · exact .inr (hhas b h)
  have hget : ∀ i, i ≠ j → ((st.ob.map (frzO j T xs)).set j AO.dead).getD i .dead = frzO j T xs (st.ob.getD i .dead) := by
    intro i hi
    have hi' : j ≠ i := fun e => hi e.symm
    simp only [List.getD, List.getElem?_set, hi', if_false, List.getElem?_map]
    cases st.ob[i]? <;> rfl
  have hgetj : ((st.ob.map (frzO j T xs)).set j AO.dead).getD j .dead = .dead := by
    simp only [List.getD, List.getElem?_set]
    by_cases hj : j < st.ob.length
    · simp [hj]
    · simp [hj]
  refine ⟨fun i => if i = j then none else G i, ⟨fun i g hg => ?_, fun i hi g hg => ?_, fun i hi hn => ?_, fun i i' g g' b hg hg' hb hb' => ?_, fun i g b hg hb => ?_, inv.old⟩, ?_, ?_, hdf.sub hhas, by simpa using hN⟩
  · by_cases e : i = j
    · simp [e] at hg
    · simp only [e, if_false] at hg
      rw [hlen]; exact inv.dom i g hg
  · by_cases e : i = j
    · simp [e] at hg
    · simp only [e, if_false] at hg
      rw [hlen] at hi ⊢
      rw [hget i e]
      have hobj := inv.live i hi g hg
      cases hoi : st.ob.getD i .dead with
      | dead => rw [hoi] at hobj; exact hobj
      | arr T' ys => rw [hoi] at hobj; exact hobj.arrFlat hA2
      | map K V es => rw [hoi] at hobj; exact hobj.mapFlat hA2
      | box cs =>
        rw [hoi] at hobj
        obtain ⟨h1, h2, b, hb, C, hrow, hrep⟩ := hobj
        refine ⟨h1, by simpa using h2, b, hb, C, by simpa using hrow, fun q hq => ?_⟩
        have hq' : q < cs.length := by simpa using hq
        have e2 : (cs.map (frz1 j T xs)).getD q .dead = frz1 j T xs (cs.getD q .dead) := by simp [List.getD, hq']
        rw [e2]; exact frz1_rep inv ho (hrep q hq')
  · by_cases e : i = j
    · rw [e]; exact hgetj
    · simp only [e, if_false] at hn
      rw [hlen] at hi
      rw [hget i e, inv.there i hi hn]; rfl
  · by_cases e : i = j
    · simp [e] at hg
    · by_cases e' : i' = j
      · simp [e'] at hg'
      · simp only [e, if_false] at hg
        simp only [e', if_false] at hg'
        exact inv.inj i i' g g' b hg hg' hb hb'
  · by_cases e : i = j
    · simp [e] at hg
    · simp only [e, if_false] at hg
      exact inv.free i g b hg hb
  · show Slots _ _ ((st.ob.map (frzO j T xs)).set j AO.dead).length _ _ _
    rw [hlen]
    refine ⟨by simpa using hsl.1, fun i hi => ?_⟩
    have hi' : i < st.sl.length := by simpa using hi
    have e : (st.sl.map (frzA j T xs)).getD i .dead = frzA j T xs (st.sl.getD i .dead) := by simp [List.getD, hi']
    rw [e]; exact frzA_rep inv ho (hsl.2 i hi')
  · show Tr np w0 G0 w _ ((st.ob.map (frzO j T xs)).set j AO.dead).length
    rw [hlen]
    refine ⟨⟨htr.t.os, htr.t.tape, htr.t.output, htr.t.size, htr.t.frame, fun b hb => htr.t.own b (hhas b hb), fun i hi => ?_⟩, htr.le⟩
    by_cases e : i = j
    · exact .inl (by simp [e])
    · rcases htr.t.keep i hi with h | h
      · exact .inl (by simp [e, h])
      · exact .inr (by simp [e, h])

theorem frzAll_sound : ∀ (js : List Nat) {st : St} {a : Act} {w : World}, S F np w0 G0 N st a w → S F np w0 G0 N (st.frzAll js) a w
  | [], _, _, _, h => h
  | j :: js, _, _, _, h => frzAll_sound js (frz_sound h j)

/-! ### Slices that are not nil, for they are not empty -/

theorem nn1_sound {A : Nat → Prop} {w : World} {n : Nat} {G : Gs} {ρ : Type} {r : ρ} {x : AV} {v : Value} {k : AV → Option ρ} (hx : Rep A w n G x v) (e : nn1 x k = some r) :
    ∃ y, Rep A w n G y v ∧ k y = some r := by
  unfold nn1 at e
  split at e
  · rename_i T xs
    split at e
    · cases e
    · rename_i h
      exact ⟨_, .nsl T xs v (fun q => h (by rw [q]; rfl)) hx, e⟩
  · exact ⟨_, hx, e⟩

theorem nnL_sound {A : Nat → Prop} {w : World} {n : Nat} {G : Gs} {ρ : Type} {r : ρ} {vs : Array Value} {k : List AV → Option ρ} : ∀ (is : List Nat) (cs : List AV), cs.length = vs.size →
    (∀ i, i < cs.length → Rep A w n G (cs.getD i .dead) (vs.getD i undef)) → nnL is cs k = some r →
    ∃ ds : List AV, ds.length = vs.size ∧ (∀ i, i < ds.length → Rep A w n G (ds.getD i .dead) (vs.getD i undef)) ∧ k ds = some r
  | [], cs, hl, h, e => ⟨cs, hl, h, e⟩
  | i :: is, cs, hl, h, e => by
    rw [nnL] at e
    by_cases hi : i < cs.length
    · obtain ⟨y, hy, e⟩ := nn1_sound (h i hi) e
      refine nnL_sound is _ (by rw [List.length_set]; exact hl) (fun j hj => ?_) e
      rw [List.length_set] at hj
      by_cases hij : i = j
      · subst hij
        have e3 : (cs.set i y).getD i .dead = y := by simp [List.getD, hi]
        rw [e3]; exact hy
      · have e3 : (cs.set i y).getD j .dead = cs.getD j .dead := by simp [List.getD, hij]
        rw [e3]; exact h j hj
    · have e0 : cs.getD i .dead = .dead := by simp [List.getD, List.getElem?_eq_none (Nat.le_of_not_lt hi)]
      rw [e0] at e
      have e1 : cs.set i .dead = cs := List.set_eq_of_length_le (Nat.le_of_not_lt hi)
      simp only [nn1, e1] at e
      exact nnL_sound is cs hl h e

theorem nnV_sound {A : Nat → Prop} {w : World} {n : Nat} {G : Gs} {ρ : Type} {r : ρ} {is : List Nat} {x : AV} {v : Value} {k : AV → Option ρ} (hx : Rep A w n G x v) (e : nnV is x k = some r) :
    ∃ y, Rep A w n G y v ∧ k y = some r := by
  unfold nnV at e
  split at e
  · exact ⟨_, hx, e⟩
  · split at e
    · cases hx with
      | agg cs vs hl h =>
        obtain ⟨ds, h1, h2, h3⟩ := nnL_sound _ _ hl h e
        exact ⟨_, .agg ds vs h1 (fun i hi => h2 i hi), h3⟩
    · exact nn1_sound hx e

/-! ### Regions -/

theorem opK_nodefer {h : OA} {o : Op} {s : List AV} {ob : List AO} {k : AV → List AO → Option ρ} (e : opK TT h o s ob k = some r) : ∀ c, o ≠ .defer c := by
  rintro c rfl
  cases e

theorem opsK_sound (tt : TTok P TT) {ops : Array Oper} {Q : Exit → Act → World → Prop} {np : Nat} {w0 : World} {G0 : Gs} {N : Nat} {k : St → Option ρ} {d0 : List Deferred}
    (hk : ∀ st a w, a.defers = d0 → S F np w0 G0 N st a w → k st = some r → Q .normal a w) :
    ∀ (os : List Oper) (hs : List OA) (st : St) (a : Act) (w : World), (∀ h ∈ hs, OAok P h) → a.defers = d0 → S F np w0 G0 N st a w → opsK TT ops.toList os hs st k = some r → wpL P ops Q os a w
  | [], _, st, a, w, _, hdd, hS, e => hk st a w hdd hS (by simpa [opsK] using e)
  | o :: os, hs, st, a, w, hok, hdd, hS, e => by
    have hh : OAok P (hs.headD .std) := by
      cases hs with
      | nil => exact trivial
      | cons h hs => exact hok h (by simp)
    have ht : ∀ h ∈ hs.tail, OAok P h := fun h hm => hok h (List.mem_of_mem_tail hm)
    have hh := hh.bare
    simp only [opsK] at e
    have hS := frzAll_sound (hs.headD .std).pre hS
    generalize st.frzAll (hs.headD .std).pre = st at e hS
    generalize (hs.headD .std).bare = hd at e hh
    generalize (hs.headD .std).nns = nn at e
    have run : ∀ (sl : List AV), (∃ G, Inv F w G st.ob ∧ Slots (avoid F G) w st.ob.length G sl a.tmps ∧ Tr np w0 G0 w G st.ob.length ∧ Marks w G w0.heap.size a.defers ∧ sl.length = N) →
        (opK TT hd o.op sl st.ob fun v ob => nnV nn v fun v => opsK TT ops.toList os hs.tail (({ sl := sl, ob := ob } : St).put o.dst v) k) = some r →
        (∀ c, o.op ≠ .defer c) ∧ o.wp P a w (wpL P ops Q os) Q := by
      rintro sl ⟨G, inv, hsl, htr, hdf, hN⟩ e
      refine ⟨opK_nodefer e, opK_sound tt hh inv hsl e _ _ ?_⟩
      rintro x w' ⟨v, ob', G', h1, h2, h3, h4, h5⟩
      have hst := h4.stays (F := F) h5
      obtain ⟨v, h2, h1⟩ := nnV_sound h2 h1
      obtain ⟨p1, p2, p3⟩ := (hsl.stays hst).putO h2 o.dst ob'
      exact opsK_sound tt hk os hs.tail _ _ _ ht (by rw [put_defers]; exact hdd) ⟨G', by rw [p3]; exact h3, by rw [p3]; exact p1, by rw [p3]; exact htr.step h4 h5, by rw [put_defers]; exact hdf.step h4, by rw [p2]; exact hN⟩ h1
    unfold wpL
    cases hg : o.guard with
    | none =>
      rw [hg] at e
      simp only at e
      rw [if_pos (by simp [Region.wanted, hg])]
      obtain ⟨G, inv, hsl, htr, hdf, hN⟩ := hS
      exact (run st.sl ⟨G, inv, hsl, htr, hdf, hN⟩ e)
    | some gw =>
      obtain ⟨g, want⟩ := gw
      rw [hg] at e
      simp only at e
      obtain ⟨G, inv, hsl, htr, hdf, hN⟩ := hS
      split at e
      · cases e
      · rename_i d hd
        have hdst : ((ops[g]?).bind (·.dst)) = some d := by
          simpa using hd
        have hy : yielded ops a.tmps g = match a.tmps[d]? with | some (.bool b) => some b | _ => none := by
          unfold yielded
          rw [hdst]
          rfl
        have hrep := hsl.eval (a := a) d
        split at e
        · rename_i b hb
          rw [hb] at hrep
          have htd : a.tmps[d]? = some (.bool b) := by
            by_cases hlt : d < a.tmps.size
            · generalize hv : a.tmps.getD d undef = v at hrep
              cases hrep
              simp [Array.getD, hlt] at hv
              simp [hlt, hv]
            · exfalso
              have hlen := hsl.1
              have hle : st.sl.length ≤ d := by rw [hlen]; exact Nat.le_of_not_lt hlt
              have : st.sl.getD d .dead = .dead := by simp [List.getD, List.getElem?_eq_none hle]
              rw [this] at hb; cases hb
          have hyb : yielded ops a.tmps g = some b := by rw [hy, htd]
          have hset : ∀ b', b' = b → Slots (avoid F G) w st.ob.length G (st.sl.set d (.bool b')) a.tmps := by
            intro b' hb'
            subst hb'
            refine ⟨by simp [hsl.1], fun i hi => ?_⟩
            have hi' : i < st.sl.length := by simpa using hi
            by_cases e2 : d = i
            · subst e2
              have e3 : (st.sl.set d (.bool b')).getD d .dead = .bool b' := by simp [List.getD, hi']
              rw [e3]; exact hrep
            · have e3 : (st.sl.set d (.bool b')).getD i .dead = st.sl.getD i .dead := by simp [List.getD, e2]
              rw [e3]; exact hsl.2 i hi'
          split at e
          · rename_i hbw
            rw [if_pos (by simp [Region.wanted, hg, hyb, hbw])]
            exact (run _ ⟨G, inv, hset want hbw.symm, htr, hdf, by simp [hN]⟩ e)
          · rename_i hbw
            rw [if_neg (by simp [Region.wanted, hg, hyb, hbw])]
            have hb2 : (!want) = b := by cases want <;> cases b <;> simp_all
            obtain ⟨p1, p2, p3⟩ := (hset (!want) hb2).putO (.undef) o.dst st.ob
            exact opsK_sound tt hk os hs.tail _ _ _ ht (by rw [put_defers]; exact hdd) ⟨G, by rw [p3]; exact inv, by rw [p3]; exact p1, by rw [p3]; exact htr, by rw [put_defers]; exact hdf, by rw [p2]; simpa using hN⟩ e
        · rename_i hb
          rw [hb] at hrep
          have hyn : yielded ops a.tmps g ≠ some want := by
            rw [hy]
            generalize hv : a.tmps.getD d undef = v at hrep
            cases hrep
            by_cases hlt : d < a.tmps.size
            · simp [Array.getD, hlt] at hv
              simp [hlt, hv, Go.undef]
            · simp [Array.getElem?_eq_none (Nat.le_of_not_lt hlt)]
          rw [if_neg (by simp [Region.wanted, hg, hyn])]
          obtain ⟨p1, p2, p3⟩ := hsl.putO (.undef) o.dst st.ob
          exact opsK_sound tt hk os hs.tail _ _ _ ht (by rw [put_defers]; exact hdd) ⟨G, by rw [p3]; exact inv, by rw [p3]; exact p1, by rw [p3]; exact htr, by rw [put_defers]; exact hdf, by rw [p2]; exact hN⟩ e
        · cases e

/-! ### Regions that draw their order -/

theorem hs_getD {hs : List OA} (h : ∀ x ∈ hs, OAok P x) (i : Nat) : OAok P (hs.getD i .std) := by
  by_cases hi : i < hs.length
  · have : hs.getD i .std = hs[i] := by simp [List.getD, hi]
    rw [this]; exact h _ (List.getElem_mem hi)
  · have : hs.getD i .std = .std := by simp [List.getD, List.getElem?_eq_none (Nat.le_of_not_lt hi)]
    rw [this]; trivial

open Classical in
/-- The slots while some of the operations are done. -/
noncomputable def mixed (l : List Oper) (m : Nat) (s0 sF : List AV) (listed : Array Bool) (t : Nat) : AV :=
  if ∃ j o, j < m ∧ l[j]? = some o ∧ o.dst = some t ∧ listed.getD j false = true then sF.getD t .dead else s0.getD t .dead

theorem draw_split {ops : List Oper} {hs : List OA} {pairs : List Oper → List OA → Nat → Bool} (hd : ((drwOps ops ops 0 [] = true ∧ (drwKinds ops hs ops.length = true ∧ (pairs ops hs ops.length = true ∧ drwLate ops hs ops.length = true))) ∨
    ((drwOps ops ops.dropLast 0 [] = true ∧ (drwKinds ops hs (ops.length - 1) = true ∧ (pairs ops hs (ops.length - 1) = true ∧ drwLate ops hs (ops.length - 1) = true))) ∧ (lastPlain ops = true ∧ ((List.range (ops.length - 1)).all fun i => near ops 3 (ops.length - 1) i) = true)))) :
    ∃ os1 os2, ops = os1 ++ os2 ∧ drwOps ops os1 0 [] = true ∧ (∀ i o, os1[i]? = some o → (hs.getD i .std).still o.op = true ∨ (hs.getD i .std).wr o = true) ∧ (pairs ops hs os1.length = true ∧ drwLate ops hs os1.length = true) ∧
      (os2 = [] ∨ ∃ o, os2 = [o] ∧ o.guard = none ∧ ∀ i, i < os1.length → near ops 3 os1.length i = true) := by
  rcases hd with ⟨hdw, hki, hpa⟩ | ⟨⟨hdw, hki, hpa⟩, hlg, hla⟩
  · refine ⟨ops, [], by simp, hdw, fun i o hi => ?_, hpa, .inl rfl⟩
    exact drwKinds_spec hki hi (List.getElem?_eq_some_iff.1 hi).1
  · by_cases hne : ops = []
    · subst hne
      exact ⟨[], [], rfl, rfl, (fun i o hi => by simp at hi), hpa, .inl rfl⟩
    · have hdl : ops.dropLast.length = ops.length - 1 := List.length_dropLast
      refine ⟨ops.dropLast, [ops.getLast hne], (List.dropLast_concat_getLast hne).symm, hdw, fun i o hi => ?_, by rw [hdl]; exact hpa, .inr ⟨_, rfl, lastPlain_spec ops.dropLast _ (by rw [List.dropLast_concat_getLast hne]; exact hlg), fun i hi => ?_⟩⟩
      · have hlt : i < ops.dropLast.length := (List.getElem?_eq_some_iff.1 hi).1
        have hi2 : ops[i]? = some o := by
          rw [List.getElem?_dropLast] at hi
          split at hi
          · exact hi
          · cases hi
        exact drwKinds_spec hki hi2 (by rw [← hdl]; exact hlt)
      · rw [List.length_dropLast] at hi ⊢
        exact List.all_eq_true.1 hla i (List.mem_range.2 hi)

/-! #### New objects that are laid early -/

/-- A block that was laid before its time is now an object. -/
theorem Inv.adopt {F1 : Nat → Prop} {w : World} {G : Gs} {ob : List AO} (inv : Inv F1 w G ob) {b : Nat} {cs : List AV} {C : Nat → Value} (hF : ∀ x, F1 x ↔ F x ∨ x = b) (hnF : ¬ F b) (hrow : Row w b cs.length C)
    (hrep : ∀ j, j < cs.length → ∀ A n G, Rep A w n G (cs.getD j .dead) (C j)) :
    Inv F w (G.push ob.length none ⟨some b, 0, cs.length, 1, 0⟩) (ob ++ [.box cs]) ∧ Stays (avoid F1 G) w ob.length G (avoid F (G.push ob.length none ⟨some b, 0, cs.length, 1, 0⟩)) w (ob.length + 1) (G.push ob.length none ⟨some b, 0, cs.length, 1, 0⟩) := by
  have hb1 : F1 b := (hF b).2 (.inr rfl)
  have hget : ∀ i g, (G.push ob.length none ⟨some b, 0, cs.length, 1, 0⟩) i = some g → (i = ob.length ∧ g = ⟨some b, 0, cs.length, 1, 0⟩) ∨ (i < ob.length ∧ G i = some g) := by
    intro i g h
    unfold Gs.push at h
    split at h
    · rename_i hi; exact .inl ⟨hi, (Option.some.inj h).symm⟩
    · simp only [reduceCtorEq, if_false] at h
      exact .inr ⟨inv.dom i g h, h⟩
  have hold : ∀ i, i < ob.length → (G.push ob.length none ⟨some b, 0, cs.length, 1, 0⟩) i = G i := by
    intro i hi
    unfold Gs.push
    rw [if_neg (by omega)]
    simp
  have hst : Stays (avoid F1 G) w ob.length G (avoid F (G.push ob.length none ⟨some b, 0, cs.length, 1, 0⟩)) w (ob.length + 1) (G.push ob.length none ⟨some b, 0, cs.length, 1, 0⟩) := by
    refine ⟨fun x _ _ hA => ⟨rfl, fun h => ?_⟩, Nat.le_succ _, fun j hj => .inr (hold j hj)⟩
    rcases h with h | ⟨j, g, hg, hgb⟩
    · exact hA (.inl ((hF x).2 (.inl h)))
    · rcases hget j g hg with ⟨_, rfl⟩ | ⟨_, h2⟩
      · exact hA (.inl ((hF x).2 (.inr (Option.some.inj hgb).symm)))
      · exact hA (.inr ⟨j, g, h2, hgb⟩)
  refine ⟨⟨fun j g hg => ?_, fun j hj g hg => ?_, fun j hj hg => ?_, fun i j g h x hi hj hgx hhx => ?_, fun j g x hg hgx => ?_, fun x hx => inv.old x ((hF x).2 (.inl hx))⟩, hst⟩
  · rw [List.length_append]
    rcases hget j g hg with ⟨h, _⟩ | ⟨h, _⟩ <;> simp <;> omega
  · rw [show (ob ++ [AO.box cs]).length = ob.length + 1 by simp]
    rcases hget j g hg with ⟨rfl, rfl⟩ | ⟨h, h2⟩
    · rw [show (ob ++ [AO.box cs]).getD ob.length .dead = .box cs by simp [List.getD]]
      exact ⟨rfl, ⟨rfl, rfl⟩, b, rfl, C, by simpa using hrow, fun j hj => by simpa using hrep j hj _ _ _⟩
    · rw [show (ob ++ [AO.box cs]).getD j .dead = ob.getD j .dead by simp [List.getD, List.getElem?_append, h]]
      exact (inv.live j h g h2).stays hst fun _ _ => rfl
  · rw [List.length_append] at hj
    by_cases h : j = ob.length
    · subst h
      simp [Gs.push] at hg
    · have h2 : j < ob.length := by simp at hj; omega
      rw [hold j h2] at hg
      rw [show (ob ++ [AO.box cs]).getD j .dead = ob.getD j .dead by simp [List.getD, List.getElem?_append, h2]]
      exact inv.there j h2 hg
  · rcases hget i g hi with ⟨h1, rfl⟩ | ⟨h1, h2⟩ <;> rcases hget j h hj with ⟨h3, rfl⟩ | ⟨h3, h4⟩
    · rw [h1, h3]
    · exfalso
      have : b = x := Option.some.inj hgx
      subst this
      exact (inv.free j h b h4 hhx).1 hb1
    · exfalso
      have : b = x := Option.some.inj hhx
      subst this
      exact (inv.free i g b h2 hgx).1 hb1
    · exact inv.inj i j g h x h2 h4 hgx hhx
  · rcases hget j g hg with ⟨_, rfl⟩ | ⟨_, h2⟩
    · have : b = x := Option.some.inj hgx
      subst this
      exact ⟨hnF, inv.old b hb1⟩
    · exact ⟨fun h => (inv.free j g x h2 hgx).1 ((hF x).2 (.inl h)), (inv.free j g x h2 hgx).2⟩

/-- A new block that is not yet looked at. -/
theorem Inv.shut {F1 : Nat → Prop} {w w' : World} {G : Gs} {ob : List AO} (inv : Inv F w G ob) (hos : w'.os = w.os) (hta : w'.tape = w.tape) (hou : w'.output = w.output)
    (hsz : w'.heap.size = w.heap.size + 1) (hfr : ∀ b, b < w.heap.size → w'.heap[b]? = w.heap[b]?) (hF : ∀ x, F1 x ↔ F x ∨ x = w.heap.size) :
    Inv F1 w' G ob ∧ Stays (avoid F G) w ob.length G (avoid F1 G) w' ob.length G ∧ Trans ob.length w G w' G := by
  obtain ⟨inv', ht⟩ := inv.grow hos hta hou (by omega) hfr
  have hst : Stays (avoid F G) w ob.length G (avoid F1 G) w' ob.length G := by
    refine ⟨fun x hx _ hA => ⟨hfr x hx, fun h => ?_⟩, Nat.le_refl _, fun j _ => .inr rfl⟩
    rcases h with h | h
    · rcases (hF x).1 h with h | h
      · exact hA (.inl h)
      · omega
    · exact hA (.inr h)
  refine ⟨⟨inv.dom, fun j hj g hg => (inv.live j hj g hg).stays hst fun b hb => hfr b (inv.free j g b hg hb).2, inv.there, inv.inj, fun j g b hg hb => ⟨fun h => ?_, by have := (inv.free j g b hg hb).2; omega⟩, fun b h => ?_⟩, hst, ht⟩
  · rcases (hF b).1 h with h | h
    · exact (inv.free j g b hg hb).1 h
    · have := (inv.free j g b hg hb).2; omega
  · rcases (hF b).1 h with h | h
    · have := inv.old b h; omega
    · omega

theorem alloc_post (tt : TTok P TT) {o : Oper} {t : Nat} (ho : o.op = .alloc t) (hk : (TT t).kind.isOther = false) (a : Act) (w : World) :
    Post P o a w fun x w' => x = .pointer (some ⟨w.heap.size, 0, none⟩) ∧ ∃ cells : Array Value, cells.toList = (TT t).zero ∧ w' = w.alloc (.cells cells t) := by
  obtain ⟨z, hz, hzc, _⟩ := tt_zero tt (isOther_false hk) w
  have hr : (Instr.alloc t true (.tuple #[])).run P w = .ok (.pointer (some ⟨w.heap.size, 0, none⟩)) (w.alloc (.cells z.cells t)) := by simp [Instr.alloc, hz, newVar, newRow]
  exact post_value (by rw [show execOp a.eval o = (do pure (Next.value (← Instr.alloc t true (.tuple #[]))) : Sem Next) by simp only [execOp, ho]]; exact run_v hr) ⟨rfl, z.cells, hzc, rfl⟩

theorem adds_op {o : Op} (h : opAdds o = true) : ∃ t, o = .alloc t := by
  cases o <;> first | (cases h; done) | exact ⟨_, rfl⟩

theorem opG_alloc {all : List Oper} {h : OA} {o : Oper} {t : Nat} (ho : o.op = .alloc t) (hw : h.wr o = true) {s : List AV} {ob ob' : List AO} {v : AV} (e : opG TT all h o s ob = some (v, ob')) :
    o.guard = none ∧ (TT t).kind.isOther = false ∧ (TT t).zero ≠ [] ∧ v = .ptr ob.length 0 0 ∧ ob' = ob ++ [.box ((TT t).zero.map constAV1)] := by
  simp only [OA.wr, Bool.and_eq_true] at hw
  have hg : o.guard = none := by
    have := hw.1.2
    cases hg : o.guard with
    | none => rfl
    | some g => rw [hg] at this; simp [ho, opAdds] at this
  unfold opG at e
  rw [hg] at e
  simp only [ho, opK] at e
  split at e
  · rename_i hk
    simp only [pairK, Option.some.injEq, Prod.mk.injEq] at e
    exact ⟨hg, hk.1, hk.2, e.1.symm, e.2.symm⟩
  · cases e

/-- A block that was laid before its time: slot and cells. -/
def PendOk (TT : Nat → TI) (F : Nat → Prop) (w0 w : World) (N : Nat) (tmps : Array Value) (b : Nat) (o : Oper) : Prop :=
  ¬ F b ∧ w0.heap.size ≤ b ∧ (∀ t, o.op = .alloc t → (TT t).zero ≠ [] → ∃ C, Row w b (TT t).zero.length C ∧ ∀ j, j < (TT t).zero.length → ∀ A w n G, Rep A w n G (((TT t).zero.map constAV1).getD j .dead) (C j)) ∧
    ∀ d, o.dst = some d → d < N → tmps.getD d undef = .pointer (some ⟨b, 0, none⟩)

theorem PendOk.step {w0 w w' : World} {tmps tmps' : Array Value} {b : Nat} {o : Oper} (h : PendOk TT F w0 w N tmps b o) (hb : w'.heap[b]? = w.heap[b]?) (ht : ∀ d, o.dst = some d → tmps'.getD d undef = tmps.getD d undef) : PendOk TT F w0 w' N tmps' b o :=
  ⟨h.1, h.2.1, fun t ho hz => let ⟨C, h1, h2⟩ := h.2.2.1 t ho hz; ⟨C, h1.stays hb, h2⟩, fun d hd hN => (ht d hd).trans (h.2.2.2 d hd hN)⟩

/-- Laid early: listed, while writes ahead of it in the text are not. -/
def Pn (os1 : List Oper) (listed : Array Bool) (m j : Nat) (o : Oper) : Prop := m ≤ j ∧ os1[j]? = some o ∧ opAdds o.op = true ∧ listed.getD j false = true

def drwF (os1 : List Oper) (F : Nat → Prop) (listed : Array Bool) (m : Nat) (B : Nat → Nat) (b : Nat) : Prop := F b ∨ ∃ j o, Pn os1 listed m j o ∧ B j = b

/-- While some of the operations are done: m is the place in the text up to which the objects are as the text has them. -/
def DrwI (TT : Nat → TI) (F : Nat → Prop) (np : Nat) (w0 : World) (G0 : Gs) (N : Nat) (d0 : List Deferred) (all os1 : List Oper) (s0 sF : List AV) (obs : Nat → List AO) (listed : Array Bool) (a : Act) (w : World) (m : Nat) : Prop :=
  ∃ (G : Gs) (B : Nat → Nat), Inv (drwF os1 F listed m B) w G (obs m) ∧ a.tmps.size = N ∧
    (∀ i, i < N → (∀ j o, Pn os1 listed m j o → o.dst ≠ some i) → Rep (avoid (drwF os1 F listed m B) G) w (obs m).length G (mixed all os1.length s0 sF listed i) (a.tmps.getD i undef)) ∧
    Tr np w0 G0 w G (obs m).length ∧ (a.defers = d0 ∧ Marks w G w0.heap.size a.defers) ∧
    (∀ j o, Pn os1 listed m j o → PendOk TT F w0 w N a.tmps (B j) o) ∧ (∀ j j' o o', Pn os1 listed m j o → Pn os1 listed m j' o' → B j = B j' → j = j')

def DrwAt (os1 : List Oper) (hs : List OA) (listed : Array Bool) (m : Nat) : Prop :=
  m ≤ os1.length ∧ (∀ j o, os1[j]? = some o → (hs.getD j .std).wr o = true → j < m → listed.getD j false = true) ∧
    (∀ j o, os1[j]? = some o → (hs.getD j .std).wr o = true → opAdds o.op = false → listed.getD j false = true → j < m)

def DrwNorm (os1 : List Oper) (hs : List OA) (listed : Array Bool) (m : Nat) : Prop :=
  m < os1.length → ∃ o, os1[m]? = some o ∧ (hs.getD m .std).wr o = true ∧ listed.getD m false = false

theorem adds_wr {h : OA} {o : Oper} (ha : opAdds o.op = true) (hk : h.still o.op = true ∨ h.wr o = true) : h.wr o = true := by
  rcases hk with hk | hk
  · exfalso
    obtain ⟨t, ht⟩ := adds_op ha
    simp only [OA.still, Bool.and_eq_true] at hk
    have := hk.2
    rw [ht] at this
    cases this
  · exact hk

/-- What was laid early becomes an object when its time has come. -/
theorem drw_advance {d0 : List Deferred} {all os1 : List Oper} {hs : List OA} {s0 sF : List AV} {ob obF : List AO} {vs : List (AV × List AO)} (hrun : Run (TT := TT) all os1 hs s0 ob vs sF obF) (hdw : drwOps all os1 0 [] = true) (hN : s0.length = N)
    (hall : ∀ (i : Nat) (o : Oper), os1[i]? = some o → all[i]? = some o)
    (hstill : ∀ (i : Nat) (o : Oper), os1[i]? = some o → (hs.getD i .std).still o.op = true ∨ (hs.getD i .std).wr o = true) {listed : Array Bool} {a : Act} {w : World} :
    ∀ (k m : Nat), os1.length - m = k → DrwAt os1 hs listed m → DrwI TT F np w0 G0 N d0 all os1 s0 sF (obAt vs obF) listed a w m →
      ∃ m', DrwAt os1 hs listed m' ∧ DrwNorm os1 hs listed m' ∧ DrwI TT F np w0 G0 N d0 all os1 s0 sF (obAt vs obF) listed a w m' := by
  have hfacts := run_facts hrun 0 [] hdw
  intro k
  induction k with
  | zero =>
    intro m hk hat hI
    exact ⟨m, hat, fun h => by omega, hI⟩
  | succ k ih =>
    intro m hk hat hI
    have hlt : m < os1.length := by omega
    have ho : os1[m]? = some os1[m] := List.getElem?_eq_getElem hlt
    obtain ⟨f1, f2, f3⟩ := hfacts m _ ho
    by_cases hw : (hs.getD m .std).wr os1[m] = true
    · by_cases hl : listed.getD m false = true
      · have ha : opAdds os1[m].op = true := by
          cases ha : opAdds os1[m].op with
          | true => rfl
          | false => have := hat.2.2 m _ ho hw ha hl; omega
        obtain ⟨t, hot⟩ := adds_op ha
        obtain ⟨_, hko, hz, hv, hob⟩ := opG_alloc hot hw f1
        refine ih (m + 1) (by omega) ⟨hlt, fun j o hj hwj hlj => ?_, fun j o hj hwj haj hlj => by have := hat.2.2 j o hj hwj haj hlj; omega⟩ ?_
        · by_cases hjm : j = m
          · subst hjm; exact hl
          · exact hat.2.1 j o hj hwj (by omega)
        obtain ⟨G, B, inv, hs1, hsl, htr, hdf, hpd, hinj⟩ := hI
        have hPm : Pn os1 listed m m os1[m] := ⟨Nat.le_refl _, ho, ha, hl⟩
        have hsub : ∀ j o, Pn os1 listed (m + 1) j o → Pn os1 listed m j o := fun j o h => ⟨by have := h.1; omega, h.2⟩
        have hsup : ∀ j o, Pn os1 listed m j o → j ≠ m → Pn os1 listed (m + 1) j o := fun j o h hne => ⟨by have := h.1; omega, h.2⟩
        obtain ⟨p1, p2, p3, p4⟩ := hpd m _ hPm
        obtain ⟨C, hrow, hC⟩ := p3 t hot hz
        have hFF : ∀ x, drwF os1 F listed m B x ↔ drwF os1 F listed (m + 1) B x ∨ x = B m := by
          intro x
          constructor
          · rintro (h | ⟨j, o, hp, rfl⟩)
            · exact .inl (.inl h)
            · by_cases hjm : j = m
              · exact .inr (by rw [hjm])
              · exact .inl (.inr ⟨j, o, hsup j o hp hjm, rfl⟩)
          · rintro ((h | ⟨j, o, hp, rfl⟩) | rfl)
            · exact .inl h
            · exact .inr ⟨j, o, hsub j o hp, rfl⟩
            · exact .inr ⟨m, _, hPm, rfl⟩
        have hnF : ¬ drwF os1 F listed (m + 1) B (B m) := by
          rintro (h | ⟨j, o, hp, hj⟩)
          · exact p1 h
          · have := hinj j m o _ (hsub j o hp) hPm hj
            have := hp.1
            omega
        have hlz : ((TT t).zero.map constAV1).length = (TT t).zero.length := by simp
        obtain ⟨inv2, hst⟩ := inv.adopt (F := drwF os1 F listed (m + 1) B) (cs := (TT t).zero.map constAV1) hFF hnF (by rw [hlz]; exact hrow) (fun j hj A n G => hC j (by rw [← hlz]; exact hj) A w n G)
        rw [← hob] at inv2
        have hln : (obAt vs obF (m + 1)).length = (obAt vs obF m).length + 1 := by rw [hob]; simp
        refine ⟨_, B, inv2, hs1, fun i hi hp => ?_, ⟨⟨htr.t.os, htr.t.tape, htr.t.output, htr.t.size, htr.t.frame, fun b hb => ?_, fun j hj => ?_⟩, by have := htr.le; omega⟩, ⟨hdf.1, fun d hd => ?_, hdf.2.2⟩, fun j o h => hpd j o (hsub j o h), fun j j' o o' h h' => hinj j j' o o' (hsub j o h) (hsub j' o' h')⟩
        · by_cases hd : os1[m].dst = some i
          · have e1 : mixed all os1.length s0 sF listed i = .ptr (obAt vs obF m).length 0 0 := by
              unfold mixed
              rw [if_pos ⟨m, _, hlt, hall m _ ho, hd, hl⟩, f2 i hd (by rw [hN]; exact hi), hv]
            rw [e1, p4 i hd hi, hln]
            refine .ptr _ 0 0 _ (by omega) ⟨_, _, rfl⟩ fun g hg => ?_
            have e2 : (⟨some (B m), 0, ((TT t).zero.map constAV1).length, 1, 0⟩ : Gh) = g := by simpa [Gs.push] using hg
            subst e2
            exact ⟨by simp, B m, rfl, by simp⟩
          · rw [hln]
            refine (hsl i hi fun j o h hd2 => ?_).stays hst
            by_cases hjm : j = m
            · subst hjm
              have : os1[j] = o := by have := h.2.1; rw [ho] at this; exact Option.some.inj this
              subst this
              exact hd hd2
            · exact hp j o (hsup j o h hjm) hd2
        · obtain ⟨j, g, hg, hgb⟩ := hb
          unfold Gs.push at hg
          split at hg
          · have : (⟨some (B m), 0, ((TT t).zero.map constAV1).length, 1, 0⟩ : Gh) = g := Option.some.inj hg
            subst this
            have : B m = b := Option.some.inj hgb
            subst this
            exact .inr p2
          · simp only [reduceCtorEq, if_false] at hg
            exact htr.t.own b ⟨j, g, hg, hgb⟩
        · have hjl := htr.le
          have : (G.push (obAt vs obF m).length none ⟨some (B m), 0, ((TT t).zero.map constAV1).length, 1, 0⟩) j = G j := by
            unfold Gs.push
            rw [if_neg (by omega)]
            simp
          rw [this]
          exact htr.t.keep j hj
        · obtain ⟨D, h1, h2, h3, h4⟩ := hdf.2.1 d hd
          refine ⟨D, h1, h2, ?_, h4⟩
          rintro ⟨j, g, hg, hgb⟩
          unfold Gs.push at hg
          split at hg
          · have : (⟨some (B m), 0, ((TT t).zero.map constAV1).length, 1, 0⟩ : Gh) = g := Option.some.inj hg
            subst this
            have : B m = D := Option.some.inj hgb
            subst this
            have h5 := hrow.cells 0 (List.length_pos_iff.2 hz)
            simp [World.cell?, h2] at h5
          · simp only [reduceCtorEq, if_false] at hg
            exact h3 ⟨j, g, hg, hgb⟩
      · exact ⟨m, hat, fun _ => ⟨_, ho, hw, by simpa using hl⟩, hI⟩
    · have hst := (hstill m _ ho).resolve_right hw
      have hna : opAdds os1[m].op = false := by
        cases ha : opAdds os1[m].op with
        | false => rfl
        | true => exact absurd (adds_wr ha (.inl hst)) hw
      have hP : ∀ j o, Pn os1 listed (m + 1) j o ↔ Pn os1 listed m j o := fun j o => by
        constructor
        · exact fun h => ⟨by have := h.1; omega, h.2⟩
        · intro h
          refine ⟨?_, h.2⟩
          have h1 := h.1
          rcases Nat.lt_or_ge m j with h2 | h2
          · exact h2
          · exfalso
            have : j = m := by omega
            subst this
            have h3 := h.2.1
            rw [ho] at h3
            have h4 := h.2.2.1
            rw [← Option.some.inj h3, hna] at h4
            cases h4
      refine ih (m + 1) (by omega) ⟨hlt, fun j o hj hwj hlj => ?_, fun j o hj hwj haj hlj => by have := hat.2.2 j o hj hwj haj hlj; omega⟩ ?_
      · by_cases hjm : j = m
        · subst hjm
          rw [ho] at hj
          rw [← Option.some.inj hj] at hwj
          exact absurd hwj hw
        · exact hat.2.1 j o hj hwj (by omega)
      obtain ⟨G, B, inv, hs1, hsl, htr, hdf, hpd, hinj⟩ := hI
      have hF : drwF os1 F listed (m + 1) B = drwF os1 F listed m B := by
        funext b
        unfold drwF
        simp only [hP]
      refine ⟨G, B, ?_, hs1, ?_, ?_, hdf, ?_, ?_⟩
      · rw [hF, f3 hst]; exact inv
      · rw [hF, f3 hst]; exact fun i hi h => hsl i hi fun j o hp => h j o ((hP j o).2 hp)
      · rw [f3 hst]; exact htr
      · exact fun j o h => hpd j o ((hP j o).1 h)
      · exact fun j j' o o' h h' => hinj j j' o o' ((hP j o).1 h) ((hP j' o').1 h')

/-- A region that draws its order, by its run in the order of the text. -/
theorem draw_core (tt : TTok P TT) {ops : Array Oper} {Q : Exit → Act → World → Prop} {np : Nat} {w0 : World} {G0 : Gs} {N : Nat} {k : St → Option ρ} {d0 : List Deferred} {hs : List OA}
    (hok : ∀ h ∈ hs, OAok P h) {st : St} {a : Act} {w : World} (hdd : a.defers = d0) (hS : S F np w0 G0 N st a w) {os1 os2 : List Oper} (hl : ops.toList = os1 ++ os2) (hplain : hs.all OA.plain = true) (hback : drwBack ops.toList 0 = true) (hdw : drwOps ops.toList os1 0 [] = true)
    (hstill : ∀ i o, os1[i]? = some o → (hs.getD i .std).still o.op = true ∨ (hs.getD i .std).wr o = true) {vs : List (AV × List AO)} {sF : List AV} {obF : List AO} (hrun : Run (TT := TT) (os1 ++ os2) os1 hs st.sl st.ob vs sF obF)
    (hpairs : ∀ w j o p, ops.toList[w]? = some o → ops.toList[j]? = some p → w < os1.length → j < os1.length → (hs.getD w .std).wr o = true → j ≠ w → (hs.getD j .std).blind p.op = false →
      (j < w → near ops.toList 5 w j = true ∨ (opAdds o.op = true ∧ ((hs.getD j .std).wr p = true ∨ opMono p.op = true ∨ drwVia ops.toList hs j w = true)) ∨ (opMono p.op = true ∧ ∀ q, monoPtr (slAt os1 vs st.sl j) p.op = some q → (obAt vs obF (w + 1)).getD q .dead = (obAt vs obF w).getD q .dead)) ∧
      (w < j → near ops.toList 5 j w = true ∨ opAdds p.op = true ∨ (opMono p.op = true ∧ ∀ q, monoPtr (slAt os1 vs st.sl j) p.op = some q → (obAt vs obF (w + 1)).getD q .dead = (obAt vs obF w).getD q .dead)))
    (hlate : drwLate ops.toList hs os1.length = true)
    (hos2 : os2 = [] ∨ ∃ o, os2 = [o] ∧ o.guard = none ∧ ∀ i, i < os1.length → near ops.toList 3 os1.length i = true) (e2 : opsK TT (os1 ++ os2) os2 (hs.drop os1.length) ⟨sF, obF⟩ k = some r)
    (hk : ∀ st a w, a.defers = d0 → S F np w0 G0 N st a w → k st = some r → Q .normal a w) : wpAnyL P ops Q ops.size (Array.replicate ops.size false) a { w with drawn := w.drawn + 1 } := by
  obtain ⟨G, inv, hsl, htr, hdf, hN⟩ := hS
  have hfacts := run_facts hrun 0 [] (by rw [← hl]; exact hdw)
  have hstat := drwOps_static _ 0 [] hdw
  have hbk := drwBack_spec _ 0 hback
  have hFl : sF.length = N := (run_len hrun).trans hN
  have hget : ∀ i o, os1[i]? = some o → ops.toList[i]? = some o := fun i o hi => by
    rw [hl, List.getElem?_append_left (List.getElem?_eq_some_iff.1 hi).1]; exact hi
  have hget' : ∀ i o, ops.toList[i]? = some o → i < os1.length → os1[i]? = some o := fun i o hi hlt => by
    rw [hl, List.getElem?_append_left hlt] at hi; exact hi
  have hgetA : ∀ i o, os1[i]? = some o → ops[i]? = some o := fun i o hi => by simpa using hget i o hi
  have hkeep : ∀ t, (∀ j o, j < os1.length → ops.toList[j]? = some o → o.dst ≠ some t) → sF.getD t .dead = st.sl.getD t .dead := fun t ht =>
    run_keep hrun fun p hp => by
      obtain ⟨j, hj, rfl⟩ := List.getElem_of_mem hp
      exact ht j _ hj (hget j _ (List.getElem?_eq_getElem hj))
  have hsz : ops.toList.length = ops.size := Array.length_toList
  -- all listed
  have hready : ∀ listed : Array Bool, listed.size = ops.size → Region.ready .any ops listed = [] → ∀ j, j < ops.size → listed.getD j false = true := by
    intro listed hls hr j
    induction j using Nat.strongRecOn with
    | _ j ihj =>
      intro hj
      by_cases hlj : listed.getD j false = true
      · exact hlj
      · exfalso
        have ho : ops[j]? = some ops[j] := Array.getElem?_eq_getElem hj
        have : j ∈ Region.ready .any ops listed := mem_ready.2 ⟨by
          simp only [Bool.not_eq_true] at hlj
          have hs : j < listed.size := by omega
          simp [Array.getD, hs] at hlj ⊢; exact hlj, ops[j], ho, fun e he hb => by
          have h1 := hbk j ops[j] (by simp) e (by simpa using he) hb
          have h2 : e.on < j := by omega
          exact ihj e.on h2 (by omega)⟩
        rw [hr] at this
        cases this
  have hall : ∀ listed : Array Bool, (∀ j, j < ops.size → listed.getD j false = true) → Region.ready .any ops listed = [] := by
    intro listed h
    rw [List.eq_nil_iff_forall_not_mem]
    intro j hj
    obtain ⟨h1, o, ho, _⟩ := mem_ready.1 hj
    have hlt := (Array.getElem?_eq_some_iff.1 ho).1
    have h2 := h j hlt
    by_cases hs : j < listed.size
    · simp [Array.getD, hs] at h1 h2; rw [h1] at h2; cases h2
    · simp [Array.getD, hs] at h2
  have hmixF : ∀ listed : Array Bool, (∀ j, j < os1.length → listed.getD j false = true) → ∀ t, mixed ops.toList os1.length st.sl sF listed t = sF.getD t .dead := by
    intro listed h t
    unfold mixed
    split
    · rfl
    · rename_i hno
      refine (hkeep t fun j o hj ho hd => hno ⟨j, o, hj, ho, hd, h j hj⟩).symm
  -- the place in the text
  have hseg : ∀ (a b : Nat), a ≤ b → b ≤ os1.length → (∀ j o, a ≤ j → j < b → os1[j]? = some o → ¬ (hs.getD j .std).wr o = true) → obAt vs obF a = obAt vs obF b := by
    intro a b hab hb h
    refine obAt_eq hab fun j h1 h2 => ?_
    have hj : os1[j]? = some os1[j] := List.getElem?_eq_getElem (by omega)
    exact (hfacts j _ hj).2.2 ((hstill j _ hj).resolve_right (h j _ h1 h2 hj))
  have hadv := fun (listed : Array Bool) (a : Act) (w : World) => drw_advance (listed := listed) (a := a) (w := w) (F := F) (np := np) (w0 := w0) (G0 := G0) (d0 := d0) (N := N) (sF := sF) (obF := obF) (vs := vs) (s0 := st.sl) (all := os1 ++ os2) hrun (by rw [← hl]; exact hdw) hN (fun i o hi => by rw [← hl]; exact hget i o hi) hstill
  -- all done
  have hdone : ∀ (listed : Array Bool) (a : Act) (w : World), (∀ j, j < os1.length → listed.getD j false = true) → (∃ m, DrwAt os1 hs listed m ∧ DrwNorm os1 hs listed m ∧ DrwI TT F np w0 G0 N d0 (os1 ++ os2) os1 st.sl sF (obAt vs obF) listed a w m) →
      ∃ G, Inv F w G obF ∧ Slots (avoid F G) w obF.length G sF a.tmps ∧ Tr np w0 G0 w G obF.length ∧ (a.defers = d0 ∧ Marks w G w0.heap.size a.defers) := by
    rintro listed a w hal ⟨m, hat, hno, G, B, inv, hs1, hsl, htr, hdf, _, _⟩
    have hm : m = os1.length := by
      rcases Nat.lt_or_ge m os1.length with h | h
      · obtain ⟨o, _, _, h3⟩ := hno h
        rw [hal m h] at h3; cases h3
      · have := hat.1; omega
    subst hm
    have hnp : ∀ j o, ¬ Pn os1 listed os1.length j o := fun j o h => by
      have h1 := (List.getElem?_eq_some_iff.1 h.2.1).1
      have := h.1
      omega
    have hF : drwF os1 F listed os1.length B = F := by
      funext b
      unfold drwF
      simp [hnp]
    rw [hF, run_end hrun] at inv
    rw [run_end hrun] at htr
    refine ⟨G, inv, ⟨by rw [hs1]; exact hFl, fun i hi => ?_⟩, htr, hdf⟩
    have := hsl i (by rw [← hFl]; exact hi) fun j o h => absurd h (hnp j o)
    rw [hF, run_end hrun, ← hl, hmixF listed hal] at this
    exact this
  -- the induction
  have key : ∀ (fuel : Nat) (listed : Array Bool) (a : Act) (w : World), listed.size = ops.size →
      (∀ j o, ops[j]? = some o → listed.getD j false = true → ∀ e ∈ o.after.toList, Region.binds .any e = true → listed.getD e.on false = true) →
      (os1.length < ops.size → listed.getD os1.length false = false) → ((List.range ops.size).filter fun i => !listed.getD i false).length ≤ fuel →
      (∃ m, DrwAt os1 hs listed m ∧ DrwNorm os1 hs listed m ∧ DrwI TT F np w0 G0 N d0 (os1 ++ os2) os1 st.sl sF (obAt vs obF) listed a w m) →
      wpAnyL P ops Q fuel listed a w := by
    intro fuel
    -- the end, where nothing is left
    have hend : ∀ (listed : Array Bool) (a : Act) (w : World), listed.size = ops.size → (os1.length < ops.size → listed.getD os1.length false = false) →
        (∃ m, DrwAt os1 hs listed m ∧ DrwNorm os1 hs listed m ∧ DrwI TT F np w0 G0 N d0 (os1 ++ os2) os1 st.sl sF (obAt vs obF) listed a w m) →
        Region.ready .any ops listed = [] → Q .normal a w := by
      intro listed a w hls hml hI hr
      have hal := hready listed hls hr
      have hlen : os1.length = ops.size := by
        have h1 : os1.length ≤ ops.size := by rw [← hsz, hl, List.length_append]; omega
        rcases Nat.lt_or_ge os1.length ops.size with h2 | h2
        · have h3 := hml h2
          rw [hal _ h2] at h3; cases h3
        · omega
      have hnil : os2 = [] := by
        have h1 := congrArg List.length hl
        rw [List.length_append, hsz] at h1
        exact List.length_eq_zero_iff.1 (by omega)
      obtain ⟨G, inv, hsl, htr, hdf⟩ := hdone listed a w (fun j hj => hal j (by omega)) hI
      subst hnil
      exact hk ⟨sF, obF⟩ a w hdf.1 ⟨G, inv, hsl, htr, hdf.2, hFl⟩ (by simpa [opsK] using e2)
    induction fuel with
    | zero =>
      intro listed a w hls hcl hml hcnt hI
      have hr : Region.ready .any ops listed = [] := hall listed fun j hj => by
        have h0 : (List.range ops.size).filter (fun i => !listed.getD i false) = [] := List.length_eq_zero_iff.1 (by omega)
        rw [List.filter_eq_nil_iff] at h0
        have := h0 j (List.mem_range.2 hj)
        simpa using this
      exact ⟨hr, hend listed a w hls hml hI hr⟩
    | succ fuel ih =>
      intro listed a w hls hcl hml hcnt hI
      refine ⟨hend listed a w hls hml hI, fun i hi => ?_⟩
      obtain ⟨hli, o, ho, haft⟩ := mem_ready.1 hi
      have hilt := (Array.getElem?_eq_some_iff.1 ho).1
      have hol' : ops.toList[i]? = some o := by simpa using ho
      have hli' : listed.getD i false = false := by
        have : i < listed.size := by omega
        simp [Array.getD, this] at hli ⊢; exact hli
      have hset : ∀ j, (listed.setIfInBounds i true).getD j false = if j = i then true else listed.getD j false := by
        intro j
        by_cases hji : j = i
        · subst hji
          have : j < listed.size := by omega
          simp [Array.getD, this]
        · rw [if_neg hji]
          exact getD_set_ne false (Ne.symm hji)
      have hnearI : ∀ d j, near ops.toList d i j = true → listed.getD j false = true := fun d j h =>
        near_listed hcl d i j (fun o2 ho2 e he hb => by rw [ho] at ho2; cases ho2; exact haft e (by simpa using he) hb) h
      have hnearL : ∀ d j q, listed.getD j false = true → near ops.toList d j q = true → listed.getD q false = true := fun d j q hj h =>
        near_listed hcl d j q (fun o2 ho2 => hcl j o2 ho2 hj) h
      have hI0 := hI
      obtain ⟨m, hat, hno, G, B, inv, hN', hrep, htr, hdf, hpd, hinj⟩ := hI
      unfold wpOpL
      rw [ho]
      simp only
      have hcl' : ∀ j o, ops[j]? = some o → (listed.setIfInBounds i true).getD j false = true → ∀ e ∈ o.after.toList, Region.binds .any e = true → (listed.setIfInBounds i true).getD e.on false = true := by
        intro j oj hoj hlj e he hb
        rw [hset] at hlj ⊢
        split
        · rfl
        · split at hlj
          · rename_i hji
            subst hji
            rw [ho] at hoj; cases hoj
            exact haft e (by simpa using he) hb
          · exact hcl j oj hoj hlj e he hb
      have hcnt' : ((List.range ops.size).filter fun j => !(listed.setIfInBounds i true).getD j false).length ≤ fuel := by
        have hle : ((List.range ops.size).filter fun j => !(listed.setIfInBounds i true).getD j false).length < ((List.range ops.size).filter fun j => !listed.getD j false).length := by
          have e1 : ((List.range ops.size).filter fun j => !(listed.setIfInBounds i true).getD j false) = ((List.range ops.size).filter fun j => !listed.getD j false).filter fun j => j != i := by
            rw [List.filter_filter]
            refine List.filter_congr fun j _ => ?_
            rw [hset]
            by_cases hji : j = i
            · simp [hji]
            · simp [hji]
          rw [e1]
          refine List.length_filter_lt_length_iff_exists.2 ⟨i, ?_, by simp⟩
          rw [List.mem_filter]
          exact ⟨List.mem_range.2 hilt, by simp [hli']⟩
        omega
      by_cases him : i < os1.length
      · -- one of the text's first part
        have hos := hget' i o hol' him
        obtain ⟨s2, s3, s4⟩ := hstat i o hos
        obtain ⟨f1, f2, f3⟩ := hfacts i o hos
        have hml' : os1.length < ops.size → (listed.setIfInBounds i true).getD os1.length false = false := fun h => by
          rw [hset, if_neg (by omega)]; exact hml h
        have hmixS' : ∀ t, o.dst = some t → mixed (os1 ++ os2) os1.length st.sl sF (listed.setIfInBounds i true) t = sF.getD t .dead := fun t hdt => by
          unfold mixed
          rw [if_pos ⟨i, o, him, by rw [← hl]; exact hol', hdt, by rw [hset, if_pos rfl]⟩]
        have hmixK' : ∀ t, o.dst ≠ some t → mixed (os1 ++ os2) os1.length st.sl sF (listed.setIfInBounds i true) t = mixed (os1 ++ os2) os1.length st.sl sF listed t := fun t hdt => by
          unfold mixed
          by_cases hex : ∃ j p, j < os1.length ∧ (os1 ++ os2)[j]? = some p ∧ p.dst = some t ∧ listed.getD j false = true
          · rw [if_pos hex]
            obtain ⟨j, p, q1, q2, q3, q4⟩ := hex
            rw [if_pos ⟨j, p, q1, q2, q3, by rw [hset]; split <;> first | rfl | exact q4⟩]
          · rw [if_neg hex, if_neg]
            rintro ⟨j, p, q1, q2, q3, q4⟩
            rw [hset] at q4
            split at q4
            · rename_i hji
              subst hji
              rw [← hl, hol'] at q2; cases q2
              exact hdt q3
            · exact hex ⟨j, p, q1, q2, q3, q4⟩
        have hputT : ∀ (x : Value) (t : Nat), o.dst ≠ some t → (a.put o.dst x).tmps.getD t undef = a.tmps.getD t undef := fun x t hdt => by
          cases hd : o.dst with
          | none => rfl
          | some d =>
            have hne : d ≠ t := fun e => hdt (by rw [hd, e])
            by_cases ht : t < a.tmps.size
            · simp [Act.put, Array.getD, ht, hne]
            · simp [Act.put, Array.getD, ht]
        have hputD : ∀ (x : Value) (t : Nat), o.dst = some t → t < N → (a.put o.dst x).tmps.getD t undef = x := fun x t hdt ht => by
          have : t < a.tmps.size := by omega
          rw [hdt]; simp [Act.put, Array.getD, this]
        have hputZ : ∀ (x : Value), (a.put o.dst x).tmps.size = N := fun x => by cases o.dst <;> simp [Act.put, hN']
        have hPdst : ∀ j p, Pn os1 listed m j p → ∀ d, p.dst = some d → o.dst ≠ some d := fun j p hp d hd hod => by
          have := s4 j p d hp.2.1 hod hd
          subst this
          have := hp.2.2.2
          rw [hli'] at this; cases this
        -- the first write that is not done
        have hmi : ∀ (p : Oper), os1[m]? = some p → m < i → (hs.getD m .std).wr p = true → listed.getD m false = false → ∀ d, near ops.toList d i m = false := fun p _ _ _ hlm d => by
          cases hn : near ops.toList d i m with
          | false => rfl
          | true => rw [hnearI d m hn] at hlm; cases hlm
        by_cases hearly : opAdds o.op = true ∧ m < i
        · -- laid early
          obtain ⟨ha, hlt⟩ := hearly
          have hwi := adds_wr ha (hstill i o hos)
          obtain ⟨t, hot⟩ := adds_op ha
          obtain ⟨hg, hko, hz, hv, hob⟩ := opG_alloc hot hwi f1
          have hP : ∀ j p, Pn os1 (listed.setIfInBounds i true) m j p ↔ Pn os1 listed m j p ∨ (j = i ∧ p = o) := fun j p => by
            constructor
            · rintro ⟨h1, h2, h3, h4⟩
              rw [hset] at h4
              by_cases hji : j = i
              · subst hji
                rw [hos] at h2
                exact .inr ⟨rfl, (Option.some.inj h2).symm⟩
              · rw [if_neg hji] at h4
                exact .inl ⟨h1, h2, h3, h4⟩
            · rintro (⟨h1, h2, h3, h4⟩ | ⟨rfl, rfl⟩)
              · exact ⟨h1, h2, h3, by rw [hset, h4]; simp⟩
              · exact ⟨by omega, hos, ha, by rw [hset, if_pos rfl]⟩
          have hPne : ∀ j p, Pn os1 listed m j p → j ≠ i := fun j p h hji => by
            subst hji
            have := h.2.2.2
            rw [hli'] at this; cases this
          let B' : Nat → Nat := fun j => if j = i then w.heap.size else B j
          have hB'i : B' i = w.heap.size := if_pos rfl
          have hB'n : ∀ j, j ≠ i → B' j = B j := fun j h => if_neg h
          have hF1 : ∀ x, drwF os1 F (listed.setIfInBounds i true) m B' x ↔ drwF os1 F listed m B x ∨ x = w.heap.size := fun x => by
            unfold drwF
            constructor
            · rintro (h | ⟨j, p, hp, rfl⟩)
              · exact .inl (.inl h)
              · rcases (hP j p).1 hp with h | ⟨rfl, rfl⟩
                · exact .inl (.inr ⟨j, p, h, (hB'n j (hPne j p h)).symm⟩)
                · exact .inr hB'i
            · rintro ((h | ⟨j, p, hp, rfl⟩) | rfl)
              · exact .inl h
              · exact .inr ⟨j, p, (hP j p).2 (.inl hp), hB'n j (hPne j p hp)⟩
              · exact .inr ⟨i, o, (hP i o).2 (.inr ⟨rfl, rfl⟩), hB'i⟩
          have hwant : Region.wanted o (yielded ops a.tmps) = true := by simp [Region.wanted, hg]
          rw [if_pos hwant]
          refine ⟨fun c h => (by rw [hot] at h; cases h), alloc_post tt hot hko a w _ _ ?_⟩
          rintro x w' ⟨rfl, cells, hc, rfl⟩
          obtain ⟨inv', hst, ht⟩ := inv.shut (F1 := drwF os1 F (listed.setIfInBounds i true) m B') (w' := w.alloc (.cells cells t)) rfl rfl rfl (by simp) (fun b hb => heap_alloc_old w _ b hb) hF1
          refine ih _ _ _ (by simp [hls]) hcl' hml' hcnt' ⟨m, ⟨hat.1, fun j p hj hw hjm => by rw [hset, hat.2.1 j p hj hw hjm]; simp, fun j p hj hw hna hlj => ?_⟩, fun h => ?_, G, B', inv', hputZ _, fun t' ht' hp => ?_, htr.step ht (Nat.le_refl _), by rw [put_defers]; exact ⟨hdf.1, hdf.2.step ht⟩, fun j p hp => ?_, fun j j' p p' hp hp' hB => ?_⟩
          · rw [hset] at hlj
            by_cases hji : j = i
            · subst hji
              rw [hos] at hj
              rw [← Option.some.inj hj, ha] at hna; cases hna
            · rw [if_neg hji] at hlj
              exact hat.2.2 j p hj hw hna hlj
          · obtain ⟨p, h1, h2, h3⟩ := hno h
            exact ⟨p, h1, h2, by rw [hset, if_neg (by omega)]; exact h3⟩
          · have hdt : o.dst ≠ some t' := hp i o ((hP i o).2 (.inr ⟨rfl, rfl⟩))
            rw [hmixK' t' hdt, hputT _ t' hdt]
            exact (hrep t' ht' fun j p h => hp j p ((hP j p).2 (.inl h))).stays hst
          · rcases (hP j p).1 hp with h | ⟨rfl, rfl⟩
            · have hne := hPne j p h
              rw [hB'n j hne]
              have hb : B j < w.heap.size := inv.old _ (.inr ⟨j, p, h, rfl⟩)
              exact (hpd j p h).step (heap_alloc_old w _ _ hb) fun d hd => hputT _ d (hPdst j p h d hd)
            · rw [hB'i]
              refine ⟨fun h => by have := inv.old _ (.inl h); omega, htr.t.size, fun t2 ht2 _ => ?_, fun d hd hdN => hputD _ d hd hdN⟩
              have : t = t2 := by rw [hot] at ht2; cases ht2; rfl
              subst this
              have hr := alloc_row w cells t
              have hcl : cells.size = (TT t).zero.length := by rw [← hc]; simp
              rw [hcl] at hr
              refine ⟨_, hr, fun q hq A w n G => ?_⟩
              have hq' : q < cells.size := by omega
              have e1 : ((TT t).zero.map constAV1).getD q .dead = constAV1 (cells.getD q undef) := by
                rw [← hc]; simp [List.getD, Array.getD, hq']
              rw [e1]; exact rep_const1 _
          · rcases (hP j p).1 hp with h | ⟨rfl, rfl⟩ <;> rcases (hP j' p').1 hp' with h' | ⟨rfl, rfl⟩
            · rw [hB'n j (hPne j p h), hB'n j' (hPne j' p' h')] at hB
              exact hinj j j' p p' h h' hB
            · exfalso
              rw [hB'n j (hPne j p h), hB'i] at hB
              have hb : B j < w.heap.size := inv.old _ (.inr ⟨j, p, h, rfl⟩)
              omega
            · exfalso
              rw [hB'n j' (hPne j' p' h'), hB'i] at hB
              have hb : B j' < w.heap.size := inv.old _ (.inr ⟨j', p', h', rfl⟩)
              omega
            · rfl
        · -- in its time
          have hPii : ∀ j p, Pn os1 listed m j p → j ≠ i := fun j p h hji => by
            subst hji
            have := h.2.2.2
            rw [hli'] at this; cases this
          have hunl : ∀ j p, Pn os1 listed m j p → m < j ∧ ∃ p0, os1[m]? = some p0 ∧ (hs.getD m .std).wr p0 = true ∧ listed.getD m false = false := fun j p h => by
            have hjl := (List.getElem?_eq_some_iff.1 h.2.1).1
            have hmj := h.1
            obtain ⟨p0, h1, h2, h3⟩ := hno (by omega)
            refine ⟨?_, p0, h1, h2, h3⟩
            rcases Nat.lt_or_ge m j with h4 | h4
            · exact h4
            · exfalso
              have : j = m := by omega
              subst this
              have := h.2.2.2
              rw [h3] at this; cases this
          -- what is pending is not asked for
          have hask : ∀ j p, Pn os1 listed m j p → j < i → ((∃ t ∈ gTmps ops.toList o, p.dst = some t) ∨ ((hs.getD i .std).blind o.op = false ∧ (hs.getD i .std).wr o = false)) → False := fun j p h hji hr => by
            obtain ⟨hmj, p0, h1, h2, h3⟩ := hunl j p h
            have hjl := (List.getElem?_eq_some_iff.1 h.2.1).1
            rcases drwLate_spec hlate (hget j p h.2.1) hol' (hget m p0 h1) hjl him hmj hji h.2.2.1 hr h2 with hn | hn
            · rw [hnearL 5 j m h.2.2.2 hn] at h3; cases h3
            · rw [hnearI 5 m hn] at h3; cases h3
          let mixL := (List.range N).map fun t => open Classical in if ∃ j p, Pn os1 listed m j p ∧ p.dst = some t then AV.dead else mixed (os1 ++ os2) os1.length st.sl sF listed t
          have hmixS : Slots (avoid (drwF os1 F listed m B) G) w (obAt vs obF m).length G mixL a.tmps := by
            refine ⟨by simp [mixL, hN'], fun t ht => ?_⟩
            have ht' : t < N := by simpa [mixL] using ht
            simp only [mixL, List.getD, List.getElem?_map, List.getElem?_range ht', Option.map_some, Option.getD_some]
            split
            · exact .dead _
            · rename_i hne
              exact hrep t ht' fun j p hp hd => hne ⟨j, p, hp, hd⟩
          have hcongr : ∀ t, t ∈ gTmps ops.toList o → mixL.getD t .dead = (slAt os1 vs st.sl i).getD t .dead := by
            intro t ht
            by_cases htN : t < N
            · simp only [mixL, List.getD, List.getElem?_map, List.getElem?_range htN, Option.map_some, Option.getD_some]
              have hR := (s3 t ht).2
              rw [if_neg]
              · unfold mixed
                split
                · rename_i hex
                  obtain ⟨q, p, q1, q2, q3, q4⟩ := hex
                  have hq2 := hget' q p (by rw [hl]; exact q2) q1
                  have hqi : q < i := by
                    rcases Nat.lt_trichotomy q i with h | h | h
                    · exact h
                    · exfalso; subst h; rw [hli'] at q4; cases q4
                    · exfalso
                      have h1 := (hR q p hq2 q3).2 h
                      rw [Nat.zero_add, Nat.zero_add] at h1
                      rw [hnearL 5 q i q4 h1] at hli'; cases hli'
                  refine (run_slB hrun i t fun q' p' hq' hle hd' => ?_).symm
                  have := (hstat q p hq2).2.2 q' p' t hq' q3 hd'
                  omega
                · rename_i hnone
                  refine (run_slA hrun i t fun q p hq hlt hd => ?_).symm
                  have hql := (List.getElem?_eq_some_iff.1 hq).1
                  have h1 := (hR q p hq hd).1 hlt
                  rw [Nat.zero_add] at h1
                  unfold bindsTo at h1
                  obtain ⟨e, he, heb⟩ := List.any_eq_true.1 h1
                  simp only [Bool.and_eq_true, beq_iff_eq] at heb
                  refine hnone ⟨q, p, hql, by rw [← hl]; exact hget q p hq, hd, ?_⟩
                  have := haft e (by simpa using he) heb.2
                  rwa [heb.1] at this
              · rintro ⟨j, p, hp, hd⟩
                rcases Nat.lt_trichotomy j i with h | h | h
                · exact hask j p hp h (.inl ⟨t, ht, hd⟩)
                · exact hPii j p hp h
                · have h1 := (hR j p hp.2.1 hd).2 h
                  rw [Nat.zero_add, Nat.zero_add] at h1
                  rw [hnearL 5 j i hp.2.2.2 h1] at hli'; cases hli'
            · have h1 : mixL.getD t .dead = .dead := by simp [mixL, List.getD, htN]
              have h2 : (slAt os1 vs st.sl i).getD t .dead = .dead := by
                have hlen := run_sllen hrun i
                simp [List.getD, List.getElem?_eq_none (show (slAt os1 vs st.sl i).length ≤ t by omega)]
              rw [h1, h2]
          have hwm : (hs.getD i .std).wr o = true → m = i := by
            intro hwi
            have hmle : m ≤ i := by
              rcases Nat.lt_or_ge i m with h | h
              · have := hat.2.1 i o hos hwi h
                rw [hli'] at this; cases this
              · exact h
            rcases Nat.lt_or_ge m i with h | h
            · exfalso
              obtain ⟨p0, h1, h2, h3⟩ := hno (by omega)
              have hna : opAdds o.op = false := by
                cases ha : opAdds o.op with
                | false => rfl
                | true => exact absurd ⟨ha, h⟩ hearly
              have hnb : (hs.getD i .std).blind o.op = false := wr_blind hwi
              rcases (hpairs m i p0 o (hget m p0 h1) hol' (by omega) him h2 (by omega) hnb).2 h with q | q | q
              · rw [hmi p0 h1 h h2 h3 5] at q; cases q
              · rw [hna] at q; cases q
              · have := q.1
                rw [wr_mono hwi] at this; cases this
            · omega
          -- writes ahead of one that looks at the objects are done; those behind it are not, or only lay a new object
          have hge : (hs.getD i .std).blind o.op = false → (hs.getD i .std).wr o ≠ true → ∀ j p, os1[j]? = some p → (hs.getD j .std).wr p = true → j < i → listed.getD j false = true ∨ (opMono o.op = true ∧ ∀ q, monoPtr (slAt os1 vs st.sl i) o.op = some q → (obAt vs obF (j + 1)).getD q .dead = (obAt vs obF j).getD q .dead) := by
            intro hbl hnw j p hj hw hlt
            have hjl : j < os1.length := (List.getElem?_eq_some_iff.1 hj).1
            rcases (hpairs j i p o (hget j p hj) hol' hjl him hw (by omega) hbl).2 hlt with q2 | q2 | q2
            · exact .inl (hnearI 5 j q2)
            · exact absurd (adds_wr q2 (hstill i o hos)) hnw
            · exact .inr q2
          have hle : (hs.getD i .std).blind o.op = false → (hs.getD i .std).wr o ≠ true → ∀ j p, os1[j]? = some p → (hs.getD j .std).wr p = true → i < j → j < m → (opAdds p.op = true ∧ opMono o.op = true) ∨ (opMono o.op = true ∧ ∀ q, monoPtr (slAt os1 vs st.sl i) o.op = some q → (obAt vs obF (j + 1)).getD q .dead = (obAt vs obF j).getD q .dead) := by
            intro hbl hnw j p hj hw hij hjm
            have hjl : j < os1.length := (List.getElem?_eq_some_iff.1 hj).1
            have hlj := hat.2.1 j p hj hw hjm
            rcases (hpairs j i p o (hget j p hj) hol' hjl him hw (by omega) hbl).1 hij with q1 | ⟨q1, q2 | q2 | q2⟩ | q1
            · exfalso
              rw [hnearL 5 j i hlj q1] at hli'; cases hli'
            · exact absurd q2 hnw
            · exact .inl ⟨q1, q2⟩
            · exfalso
              obtain ⟨v, ov, v1, v2, v3, v4, _, v6⟩ := drwVia_spec q2
              have hlv := hat.2.1 v ov (hget' v ov v3 (by omega)) v4 (by omega)
              rw [hnearL 5 v i hlv v6] at hli'; cases hli'
            · exact .inr q1
          have hstl : (hs.getD i .std).blind o.op = false → (hs.getD i .std).wr o ≠ true → opG TT (os1 ++ os2) (hs.getD i .std) o (slAt os1 vs st.sl i) (obAt vs obF m) = some ((vs.getD i (.dead, [])).1, obAt vs obF m) := by
            intro hbl hwi
            have hsti := (hstill i o hos).resolve_right hwi
            have h0 : opG TT (os1 ++ os2) (hs.getD i .std) o (slAt os1 vs st.sl i) (obAt vs obF i) = some ((vs.getD i (.dead, [])).1, obAt vs obF i) := by
              have h1 := f1
              rw [f3 hsti] at h1
              exact h1
            rcases Nat.le_total m i with h | h
            · by_cases hex : ∃ j p, m ≤ j ∧ j < i ∧ os1[j]? = some p ∧ (hs.getD j .std).wr p = true
              · have hgo : ∀ j p, m ≤ j → j < i → os1[j]? = some p → (hs.getD j .std).wr p = true → opMono o.op = true ∧ ∀ q, monoPtr (slAt os1 vs st.sl i) o.op = some q → (obAt vs obF (j + 1)).getD q .dead = (obAt vs obF j).getD q .dead := by
                  intro j p hmj hji hj hw
                  rcases hge hbl hwi j p hj hw hji with q | q
                  · exfalso
                    cases ha : opAdds p.op with
                    | false => have := hat.2.2 j p hj hw ha q; omega
                    | true => exact hask j p ⟨hmj, hj, ha, q⟩ hji (.inr ⟨hbl, by simpa using hwi⟩)
                  · exact q
                obtain ⟨j0, p0, a1, a2, a3, a4⟩ := hex
                refine opG_at (hgo j0 p0 a1 a2 a3 a4).1 (fun q hq => ?_) h0
                have step : ∀ d, m + d ≤ i → (obAt vs obF (m + d)).getD q .dead = (obAt vs obF m).getD q .dead := by
                  intro d
                  induction d with
                  | zero => intro _; rfl
                  | succ d ihd =>
                    intro hd
                    rw [← ihd (by omega)]
                    have hk1 : os1[m + d]? = some os1[m + d] := List.getElem?_eq_getElem (by omega)
                    by_cases hw : (hs.getD (m + d) .std).wr os1[m + d] = true
                    · exact (hgo (m + d) _ (by omega) (by omega) hk1 hw).2 q hq
                    · rw [show m + (d + 1) = m + d + 1 by omega, ← hseg (m + d) (m + d + 1) (by omega) (by omega) fun j p h3 h4 hj hw2 => by
                        have : j = m + d := by omega
                        subst this
                        rw [hk1] at hj; cases hj
                        exact hw hw2]
                have := step (i - m) (by omega)
                rw [show m + (i - m) = i by omega] at this
                exact this.symm
              · rw [hseg m i h (by omega) fun j p h1 h2 hj hw => hex ⟨j, p, h1, h2, hj, hw⟩]
                exact h0
            · have hml2 := hat.1
              have step : ∀ d, i + d ≤ m → opG TT (os1 ++ os2) (hs.getD i .std) o (slAt os1 vs st.sl i) (obAt vs obF (i + d)) = some ((vs.getD i (.dead, [])).1, obAt vs obF (i + d)) := by
                intro d
                induction d with
                | zero => intro _; exact h0
                | succ d ihd =>
                  intro hd
                  have h2 := ihd (by omega)
                  have hk1 : os1[i + d]? = some os1[i + d] := List.getElem?_eq_getElem (by omega)
                  by_cases hw : (hs.getD (i + d) .std).wr os1[i + d] = true
                  · have hne : i < i + d := by
                      rcases Nat.eq_zero_or_pos d with h3 | h3
                      · exfalso
                        subst h3
                        have h4 : os1[i + 0]? = some o := hos
                        rw [hk1] at h4
                        simp only [Option.some.injEq] at h4
                        rw [h4] at hw
                        exact hwi hw
                      · omega
                    rcases hle hbl hwi (i + d) _ hk1 hw hne (by omega) with ⟨a1, a2⟩ | ⟨a1, a2⟩
                    · obtain ⟨x, hx⟩ := opG_adds a1 hw (hfacts (i + d) _ hk1).1
                      rw [show i + (d + 1) = i + d + 1 by omega, hx]
                      exact opG_mono a2 x h2
                    · rw [show i + (d + 1) = i + d + 1 by omega]
                      exact opG_at a1 a2 h2
                  · rw [show i + (d + 1) = i + d + 1 by omega, ← hseg (i + d) (i + d + 1) (by omega) (by omega) fun j p h3 h4 hj hw2 => by
                      have : j = i + d := by omega
                      subst this
                      rw [hk1] at hj; cases hj
                      exact hw hw2]
                    exact h2
              have := step (m - i) (by omega)
              rw [show i + (m - i) = m by omega] at this
              exact this
          obtain ⟨m', hmm, hP, hat', hop⟩ : ∃ m', (obAt vs obF m).length ≤ (obAt vs obF m').length ∧ (∀ j p, Pn os1 (listed.setIfInBounds i true) m' j p ↔ Pn os1 listed m j p) ∧ DrwAt os1 hs (listed.setIfInBounds i true) m' ∧ opG TT ops.toList (hs.getD i .std) o mixL (obAt vs obF m) = some ((vs.getD i (.dead, [])).1, obAt vs obF m') := by
            rw [opG_congr (hstill i o hos) hcongr, hl]
            by_cases hwi : (hs.getD i .std).wr o = true
            · have := hwm hwi
              subst this
              refine ⟨m + 1, run_oblen hrun _ _ (Nat.le_succ m), fun j p => ⟨fun h => ⟨by have := h.1; omega, h.2.1, h.2.2.1, ?_⟩, fun h => ⟨?_, h.2.1, h.2.2.1, ?_⟩⟩, ⟨him, fun j p hj hw hlt => ?_, fun j p hj hw hna hlj => ?_⟩, f1⟩
              · have h2 := h.2.2.2
                have h1 := h.1
                rw [hset, if_neg (by omega)] at h2
                exact h2
              · have h1 := h.1
                have := hPii j p h
                omega
              · rw [hset, h.2.2.2]; simp
              · rw [hset]
                split
                · rfl
                · exact hat.2.1 j p hj hw (by omega)
              · rw [hset] at hlj
                split at hlj
                · omega
                · have := hat.2.2 j p hj hw hna hlj; omega
            · have hsti := (hstill i o hos).resolve_right hwi
              have hna : opAdds o.op = false := by
                cases ha : opAdds o.op with
                | false => rfl
                | true => exact absurd (adds_wr ha (.inl hsti)) hwi
              refine ⟨m, Nat.le_refl _, fun j p => ⟨fun h => ⟨h.1, h.2.1, h.2.2.1, ?_⟩, fun h => ⟨h.1, h.2.1, h.2.2.1, ?_⟩⟩, ⟨hat.1, fun j p hj hw hlt => ?_, fun j p hj hw hna2 hlj => ?_⟩, ?_⟩
              · have h2 := h.2.2.2
                rw [hset] at h2
                split at h2
                · rename_i hji
                  subst hji
                  exfalso
                  have h3 := h.2.1
                  rw [hos] at h3
                  have h4 := h.2.2.1
                  rw [← Option.some.inj h3, hna] at h4; cases h4
                · exact h2
              · rw [hset, h.2.2.2]; simp
              · rw [hset, hat.2.1 j p hj hw hlt]; simp
              · rw [hset] at hlj
                split at hlj
                · rename_i hji
                  subst hji
                  rw [hos] at hj; cases hj
                  exact absurd hw hwi
                · exact hat.2.2 j p hj hw hna2 hlj
              · cases hb : (hs.getD i .std).blind o.op with
                | false => exact hstl hb hwi
                | true =>
                  have h1 := f1
                  rw [f3 hsti] at h1
                  exact opG_blind hb h1
          have hF : drwF os1 F (listed.setIfInBounds i true) m' B = drwF os1 F listed m B := by
            funext b
            unfold drwF
            simp only [hP]
          have cont : ∀ (x : Value) (w' : World) (G' : Gs), Rep (avoid (drwF os1 F listed m B) G') w' (obAt vs obF m').length G' (vs.getD i (.dead, [])).1 x → Inv (drwF os1 F listed m B) w' G' (obAt vs obF m') → Trans (obAt vs obF m).length w G w' G' → (obAt vs obF m).length ≤ (obAt vs obF m').length →
              wpAnyL P ops Q fuel (listed.setIfInBounds i true) (a.put o.dst x) w' := ?cont
          have plain : opK TT (hs.getD i .std) o.op mixL (obAt vs obF m) pairK = some ((vs.getD i (.dead, [])).1, obAt vs obF m') → (∀ c, o.op ≠ .defer c) ∧ o.wp P a w (wpAnyL P ops Q fuel (listed.setIfInBounds i true)) Q := by
            intro hop
            refine ⟨opK_nodefer hop, opK_sound tt (hs_getD hok i) inv hmixS hop _ _ ?_⟩
            rintro x w' ⟨v, ob', G', h1, h2, h3, h4, h5⟩
            simp only [pairK, Option.some.injEq, Prod.mk.injEq] at h1
            obtain ⟨rfl, rfl⟩ := h1
            exact cont x w' G' h2 h3 h4 h5
          · unfold opG at hop
            cases hg : o.guard with
            | none =>
              rw [hg] at hop
              simp only [Region.wanted, hg, if_true]
              exact plain hop
            | some gw =>
              obtain ⟨g, want⟩ := gw
              rw [hg] at hop
              simp only at hop
              cases hd : ((ops.toList)[g]?).bind (·.dst) with
              | none => rw [hd] at hop; cases hop
              | some d =>
                rw [hd] at hop
                simp only at hop
                have hdst : ((ops[g]?).bind (·.dst)) = some d := by simpa using hd
                have hy : yielded ops a.tmps g = match a.tmps[d]? with | some (.bool b) => some b | _ => none := by
                  unfold yielded
                  rw [hdst]
                  rfl
                have hrep2 := hmixS.eval (a := a) d
                cases hv : mixL.getD d .dead <;> rw [hv] at hop <;> first | cases hop; done | skip
                · rename_i b
                  rw [hv] at hrep2
                  have htd : a.tmps[d]? = some (.bool b) := by
                    by_cases hlt : d < a.tmps.size
                    · generalize hv : a.tmps.getD d undef = v at hrep2
                      cases hrep2
                      simp [Array.getD, hlt] at hv
                      simp [hlt, hv]
                    · exfalso
                      have : mixL.getD d .dead = .dead := by simp [mixL, List.getD, show ¬ d < N from fun h => hlt (by rw [hN']; exact h)]
                      rw [this] at hv; cases hv
                  have hyb : yielded ops a.tmps g = some b := by rw [hy, htd]
                  simp only at hop
                  split at hop
                  · rename_i hbw
                    rw [if_pos (by simp [Region.wanted, hg, hyb, hbw])]
                    exact plain hop
                  · rename_i hbw
                    rw [if_neg (by simp [Region.wanted, hg, hyb, hbw])]
                    simp only [Option.some.injEq, Prod.mk.injEq] at hop
                    exact cont undef w G (by rw [← hop.1]; exact .undef) (by rw [← hop.2]; exact inv) (Trans.refl _ _ _) (by rw [← hop.2]; exact Nat.le_refl _)
                · rw [hv] at hrep2
                  have hyn : yielded ops a.tmps g ≠ some want := by
                    rw [hy]
                    generalize hv : a.tmps.getD d undef = v at hrep2
                    cases hrep2
                    by_cases hlt : d < a.tmps.size
                    · simp [Array.getD, hlt] at hv
                      simp [hlt, hv, Go.undef]
                    · simp [Array.getElem?_eq_none (Nat.le_of_not_lt hlt)]
                  rw [if_neg (by simp [Region.wanted, hg, hyn])]
                  simp only [Option.some.injEq, Prod.mk.injEq] at hop
                  exact cont undef w G (by rw [← hop.1]; exact .undef) (by rw [← hop.2]; exact inv) (Trans.refl _ _ _) (by rw [← hop.2]; exact Nat.le_refl _)
          intro x w' G' h2 h3 h4 hle2
          have hst' := h4.stays (F := drwF os1 F listed m B) hle2
          refine ih _ _ _ (by simp [hls]) hcl' hml' hcnt' (hadv _ _ _ _ m' rfl hat' ⟨G', B, by rw [hF]; exact h3, hputZ x, fun t ht hp => ?_, htr.step h4 hle2, by rw [put_defers]; exact ⟨hdf.1, hdf.2.step h4⟩, fun j p hp => ?_, fun j j' p p' hp hp' => hinj j j' p p' ((hP j p).1 hp) ((hP j' p').1 hp')⟩)
          · rw [hF]
            by_cases hdt : o.dst = some t
            · rw [hmixS' t hdt, hputD x t hdt ht, f2 t hdt (by rw [hN]; exact ht)]
              exact h2
            · rw [hmixK' t hdt, hputT x t hdt]
              exact (hrep t ht fun j p h => hp j p ((hP j p).2 h)).stays hst'
          · have hp' := (hP j p).1 hp
            have hb1 : drwF os1 F listed m B (B j) := .inr ⟨j, p, hp', rfl⟩
            refine (hpd j p hp').step (h4.frame _ (inv.old _ hb1) ?_) fun d hd => hputT x d (hPdst j p hp' d hd)
            rintro ⟨q, g, hg, hgb⟩
            exact (inv.free q g _ hg hgb).1 hb1
      · -- the last one
        rcases hos2 with h0 | ⟨ol, h0, s1, hbt⟩
        · exfalso
          subst h0
          have h1 := congrArg List.length hl
          simp only [List.append_nil] at h1
          omega
        · subst h0
          have h1 := congrArg List.length hl
          simp only [List.length_append, List.length_cons, List.length_nil] at h1
          have hio : i = os1.length := by omega
          subst hio
          have hoo : o = ol := by
            rw [hl, List.getElem?_append_right (Nat.le_refl _)] at hol'
            simpa using hol'.symm
          subst hoo
          have hlisted : ∀ j, j < os1.length → listed.getD j false = true := fun j hj => hnearI 3 j (hbt j hj)
          obtain ⟨G, inv, hmixS, htr, hdf⟩ := hdone listed a w hlisted hI0
          have hwant : Region.wanted o (yielded ops a.tmps) = true := by simp [Region.wanted, s1]
          rw [if_pos hwant]
          have hh : (hs.drop os1.length).headD .std = hs.getD os1.length .std := by
            simp [List.getD, List.headD_eq_head?_getD, List.head?_drop]
          have hpl : (hs.getD os1.length .std).plain = true := by
            by_cases hlt : os1.length < hs.length
            · have := List.all_eq_true.1 hplain _ (List.getElem_mem hlt)
              simpa [List.getD, hlt] using this
            · simp [List.getD, List.getElem?_eq_none (Nat.le_of_not_lt hlt), OA.plain]
          simp only [opsK, s1, hh, (plain_bare hpl).1, (plain_bare hpl).2, plain_nns hpl, nnV_nil, St.frzAll] at e2
          refine ⟨opK_nodefer e2, opK_sound tt (hs_getD hok _) inv hmixS e2 _ _ ?_⟩
          rintro x w' ⟨v, ob', G', g1, g2, g3, g4, g5⟩
          have hst' := g4.stays (F := F) g5
          obtain ⟨p1, p2, p3⟩ := (hmixS.stays hst').putO g2 o.dst ob'
          have hallL : ∀ j, j < ops.size → (listed.setIfInBounds os1.length true).getD j false = true := fun j hj => by
            rw [hset]
            split
            · rfl
            · exact hlisted j (by omega)
          exact wpAnyL_done (P := P) (hall _ hallL) (hk _ _ _ (by rw [put_defers]; exact hdf.1) ⟨G', by rw [p3]; exact g3, by rw [p3]; exact p1, by rw [p3]; exact htr.step g4 g5, by rw [put_defers]; exact hdf.2.step g4, by rw [p2]; exact hFl⟩ g1) fuel
  have hrep0 : ∀ j, (Array.replicate ops.size false).getD j false = false := fun j => by
    by_cases h : j < ops.size <;> simp [Array.getD, h]
  refine key ops.size _ _ _ (by simp) (fun j o _ hj => ?_) (fun h => by simp [Array.getD, h]) ?_ (hadv _ _ _ _ 0 rfl ⟨Nat.zero_le _, fun j o _ _ h => by omega, fun j o _ _ _ h => by rw [hrep0] at h; cases h⟩ ⟨G, fun _ => 0, ?_⟩)
  · exfalso
    rw [hrep0] at hj; cases hj
  · exact Nat.le_trans (List.length_filter_le _ _) (by simp)
  · obtain ⟨hg1, hg2⟩ := inv.grow (w' := { w with drawn := w.drawn + 1 }) rfl rfl rfl (Nat.le_refl _) (fun _ _ => rfl)
    have hnp : ∀ j o, ¬ Pn os1 (Array.replicate ops.size false) 0 j o := fun j o h => by
      have := h.2.2.2
      rw [hrep0] at this; cases this
    have hF : drwF os1 F (Array.replicate ops.size false) 0 (fun _ => 0) = F := by
      funext b
      unfold drwF
      simp [hnp]
    refine ⟨by rw [run_start hrun, hF]; exact hg1, by rw [← hsl.1]; exact hN, fun i hi _ => ?_, by rw [run_start hrun]; exact htr.step hg2 (Nat.le_refl _), ⟨hdd, hdf.step hg2⟩, fun j o h => absurd h (hnp j o), fun j j' o o' h => absurd h (hnp j o)⟩
    have e1 : mixed (os1 ++ os2) os1.length st.sl sF (Array.replicate ops.size false) i = st.sl.getD i .dead := by
      unfold mixed
      rw [if_neg]
      rintro ⟨j, o, h1, h2, h3, h4⟩
      rw [hrep0] at h4; cases h4
    rw [e1, run_start hrun, hF]
    exact (hsl.2 i (by rw [hN]; exact hi)).stays (hg2.stays (F := F) (Nat.le_refl _))

theorem draw_sound (tt : TTok P TT) (hm : P.follows .mixedOrders = true) {id : Nat} {rd : Option Nat} {ops : Array Oper} {Q : Exit → Act → World → Prop} {np : Nat} {w0 : World} {G0 : Gs} {N : Nat} {k : St → Option ρ} {d0 : List Deferred} {hs : List OA}
    (hok : ∀ h ∈ hs, OAok P h) (hnat : ∀ h ∈ hs, h.nat) (hd : drwOk ops.toList hs = true) {st : St} {a : Act} {w : World} (hdd : a.defers = d0) (hS : S F np w0 G0 N st a w) (e : opsK TT ops.toList ops.toList hs st k = some r)
    (hk : ∀ st a w, a.defers = d0 → S F np w0 G0 N st a w → k st = some r → Q .normal a w) : (Code.region id ops true).wpIn (Fr rd) 0 P Q a w := by
  simp only [drwOk, Bool.and_eq_true, Bool.or_eq_true] at hd
  obtain ⟨⟨hplain, hback⟩, hlast⟩ := hd
  obtain ⟨os1, os2, hl, hdw, hstill, ⟨hpa, hlate⟩, hos2⟩ := draw_split (pairs := drwPairs) hlast
  have e' := e
  rw [hl] at e'
  obtain ⟨vs, sF, obF, hrun, e2⟩ := opsK_run os1 os2 hs st hnat hstill e'
  refine wpIn_region_any hm (wpAnyL_in _ _ _ _ ?_)
  refine draw_core tt hok hdd hS hl hplain hback hdw hstill hrun (fun w j o p h1 h2 h3 h4 h5 h6 h7 => ?_) hlate hos2 e2 hk
  have := drwPairs_spec hpa h1 h2 h3 h4 h5 h6 h7
  exact ⟨fun h => (this.1 h).imp (fun h => h) .inl, fun h => (this.2 h).imp (fun h => h) .inl⟩

theorem draw_soundT (tt : TTok P TT) (hm : P.follows .mixedOrders = true) {id : Nat} {rd : Option Nat} {ops : Array Oper} {Q : Exit → Act → World → Prop} {np : Nat} {w0 : World} {G0 : Gs} {N : Nat} {k : St → Option ρ} {d0 : List Deferred} {hs : List OA}
    (hok : ∀ h ∈ hs, OAok P h) (hnat : ∀ h ∈ hs, h.nat) (hd : drwOkT ops.toList hs = true) {st : St} {a : Act} {w : World} (hdd : a.defers = d0) (hS : S F np w0 G0 N st a w) (e : opsT TT ops.toList ops.toList hs 0 [] [] st k = some r)
    (hk : ∀ st a w, a.defers = d0 → S F np w0 G0 N st a w → k st = some r → Q .normal a w) : (Code.region id ops true).wpIn (Fr rd) 0 P Q a w := by
  simp only [drwOkT, Bool.and_eq_true, Bool.or_eq_true] at hd
  obtain ⟨⟨hplain, hback⟩, hlast⟩ := hd
  obtain ⟨os1, os2, hl, hdw, hstill, ⟨hpa, hlate⟩, hos2⟩ := draw_split (pairs := drwPairsT) hlast
  have e' := e
  rw [hl] at e'
  obtain ⟨vs, sF, obF, ts', ps', hrun, e2, _, _, hf2, hf3⟩ := opsT_run os1 os2 hs 0 [] [] st hnat hstill e'
  have hfacts := run_facts hrun 0 [] (by rw [← hl]; exact hdw)
  obtain ⟨k2, e3, hk2⟩ : ∃ k2 : St → Option ρ, opsK TT (os1 ++ os2) os2 (hs.drop os1.length) ⟨sF, obF⟩ k2 = some r ∧ ∀ st', k2 st' = some r → k st' = some r := by
    rcases hos2 with h0 | ⟨o, h0, _⟩
    · subst h0; exact ⟨k, e2, fun _ h => h⟩
    · subst h0
      rw [opsT] at e2
      split at e2
      · cases e2
      · refine ⟨_, e2, fun st' h => ?_⟩
        split at h
        · exact h
        · split at h
          · cases h
          · exact h
  have hget : ∀ i o, ops.toList[i]? = some o → i < os1.length → os1[i]? = some o := fun i o hi hlt => by
    rw [hl, List.getElem?_append_left hlt] at hi; exact hi
  refine wpIn_region_any hm (wpAnyL_in _ _ _ _ ?_)
  refine draw_core tt hok hdd hS hl hplain hback hdw hstill hrun (fun w j o p h1 h2 h3 h4 h5 h6 h7 => ?_) hlate hos2 e3 (fun st a w hdd hS h => hk st a w hdd hS (hk2 st h))
  have := drwPairsT_spec hpa h1 h2 h3 h4 h5 h6 h7
  have hsm : ∀ (T : List Nat) (q : Nat), (∀ q, q < (obAt vs obF w).length → q ∉ T → (obAt vs obF (w + 1)).getD q .dead = (obAt vs obF w).getD q .dead) → sameObj (0 + w, obAt vs obF w, obAt vs obF (w + 1), T) q = true → (obAt vs obF (w + 1)).getD q .dead = (obAt vs obF w).getD q .dead := by
    intro T q t2 hs
    unfold sameObj at hs
    simp only [Bool.or_eq_true, Bool.and_eq_true, decide_eq_true_eq, Bool.not_eq_true'] at hs
    rcases hs with ⟨h10, h11⟩ | h10
    · refine t2 q h10 fun hmem => ?_
      rw [List.contains_iff_mem.2 hmem] at h11
      cases h11
    · exact (aoSame_eq h10).symm
  refine ⟨fun h => ?_, fun h => ?_⟩
  · rcases this.1 h with h8 | h8 | ⟨h8, h9⟩
    · exact .inl h8
    · exact .inr (.inl h8)
    · rcases opG_frame h8 (hfacts w o (hget w o h1 h3)).1 with t0 | ⟨T, t1, t2⟩
      · exact .inr (.inr ⟨h9, fun q _ => by rw [t0]⟩)
      by_cases hnear : near ops.toList 5 w j = true
      · exact .inl hnear
      · refine .inr (.inr ⟨h9, fun q hq => ?_⟩)
        have hps := hf3 w j o p T q h (hget w o h1 h3) (hget j p h2 h4) t1 hq
        unfold psOk at hps
        simp only [Bool.or_eq_true] at hps
        rcases hps with h10 | h10
        · exfalso
          simp only [Nat.zero_add] at h10
          rw [← hl] at h10
          exact hnear h10
        · exact hsm T q t2 h10
  · rcases this.2 h with h8 | h8 | ⟨h8, h9⟩
    · exact .inl h8
    · exact .inr (.inl h8)
    · rcases opG_frame h8 (hfacts w o (hget w o h1 h3)).1 with t0 | ⟨T, t1, t2⟩
      · exact .inr (.inr ⟨h9, fun q _ => by rw [t0]⟩)
      have hts := hf2 w j o p T h (hget w o h1 h3) (hget j p h2 h4) t1
      by_cases hnear : near ops.toList 5 j w = true
      · exact .inl hnear
      · refine .inr (.inr ⟨h9, fun q hq => ?_⟩)
        unfold tsOk1 at hts
        rw [hq] at hts
        simp only [Bool.or_eq_true] at hts
        rcases hts with h10 | h10
        · exfalso
          simp only [Nat.zero_add] at h10
          rw [← hl] at h10
          exact hnear h10
        · exact hsm T q t2 h10

/-- In a round's frame nothing is deferred. -/
def SR (rd : Option Nat) (F : Nat → Prop) (np : Nat) (w0 : World) (G0 : Gs) (N : Nat) (st : St) (a : Act) (w : World) : Prop :=
  S F np w0 G0 N st a w ∧ (rd.isSome = true → a.defers = [])

/-! ### Typed cuts -/

/-- A spec of N slots, whose first objects are those that came in. -/
def Spec.ok (np N : Nat) (s : Spec) : Bool := decide (s.n = N) && decide (s.np = np) && decide (np ≤ s.objs.length) && s.slots.all fun i => decide (i < N)

theorem spec_soundG {s : Spec} (hs : s.ok np N = true) {st : St} {a : Act} {w : World} {G : Gs} (h : Inv F w G st.ob ∧ Slots (avoid F G) w st.ob.length G st.sl a.tmps ∧ Tr np w0 G0 w G st.ob.length ∧ Marks w G w0.heap.size a.defers ∧ st.sl.length = N) {d : s.D} (e : s.dec st = some d) :
    ∃ G', (∀ b, G'.has b → G.has b) ∧ Inv F w G' (s.enc d).ob ∧ Slots (avoid F G') w (s.enc d).ob.length G' (s.enc d).sl a.tmps ∧ Tr np w0 G0 w G' (s.enc d).ob.length ∧ Marks w G' w0.heap.size a.defers ∧ (s.enc d).sl.length = N := by
  obtain ⟨inv, hsl, htr, hdf, hN⟩ := h
  simp only [Spec.ok, Bool.and_eq_true, decide_eq_true_eq, List.all_eq_true] at hs
  obtain ⟨⟨⟨h1, h2⟩, h3⟩, h4⟩ := hs
  unfold Spec.dec at e
  simp only [Option.map_eq_some_iff] at e
  obtain ⟨⟨d', fin⟩, e1, rfl⟩ := e
  have hr : RepL (avoid F G) w st.ob.length G (s.slots.map fun i => st.sl.getD i .dead) (s.slots.map fun i => a.tmps.getD i undef) :=
    repL_of (by simp) fun i hi => by
      have hi' : i < s.slots.length := by simpa using hi
      have e1 : (s.slots.map fun i => st.sl.getD i .dead).getD i .dead = st.sl.getD s.slots[i] .dead := by simp [List.getD, hi']
      have e2 : (s.slots.map fun i => a.tmps.getD i undef).getD i undef = a.tmps.getD s.slots[i] undef := by simp [List.getD, hi']
      rw [e1, e2]; exact hsl.eval (a := a) _
  obtain ⟨le, in2, hap, hfrom, hF⟩ := read_sound inv e1 (start_inv G s.np s.objs _ (by have := htr.le; omega)) hr
  obtain ⟨g1, g2⟩ := hF F (fun b hb => ⟨.inl hb, fun j g _ hg hgb => (inv.free j g b hg hgb).1 hb⟩) (fun b hb hh => by
    obtain ⟨j, g, _, hg, hgb⟩ := hfrom b hh
    exact (inv.free j g b hg hgb).1 hb) inv.old
  have hlen := encOs_length s.objs id s.objs (s.objs_ d')
  refine ⟨Gn fin.src s.objs G, (fun b hb => let ⟨j, g, _, hg, hgb⟩ := hfrom b hb; ⟨j, g, hg, hgb⟩), g1, ?_, ⟨⟨htr.t.os, htr.t.tape, htr.t.output, htr.t.size, htr.t.frame, fun b hb => ?_, fun i hi => ?_⟩, ?_⟩, hdf.sub (fun b hb => let ⟨j, g, _, hg, hgb⟩ := hfrom b hb; ⟨j, g, hg, hgb⟩), ?_⟩
  · show Slots _ w (encOs s.objs id s.objs (s.objs_ d')).length _ (setSlots s.slots _ _) a.tmps
    rw [hlen]
    have hl : (List.replicate s.n AV.dead).length = a.tmps.size := by rw [List.length_replicate, h1, ← hN]; exact hsl.1
    refine ⟨by rw [setSlots_length]; exact hl, fun i hi => ?_⟩
    rw [setSlots_length] at hi
    refine setSlots_rep s.slots _ _ a.tmps hl (fun q hq => ?_) g2 i hi
    have hq' : q < s.n := by simpa using hq
    have e3 : (List.replicate s.n AV.dead).getD q .dead = .dead := by simp [List.getD, hq']
    rw [e3]; exact .dead _
  · obtain ⟨j, g, _, hg, hgb⟩ := hfrom b hb
    exact htr.t.own b ⟨j, g, hg, hgb⟩
  · rcases start_keep (G := G) le (i := i) (by omega) (by omega) with h | h
    · exact .inl h
    · rw [h]; exact htr.t.keep i hi
  · show np ≤ (encOs s.objs id s.objs (s.objs_ d')).length
    rw [hlen]; exact h3
  · show (setSlots s.slots _ (List.replicate s.n AV.dead)).length = N
    rw [setSlots_length, List.length_replicate, h1]

theorem spec_sound {s : Spec} (hs : s.ok np N = true) {st : St} {a : Act} {w : World} (h : S F np w0 G0 N st a w) {d : s.D} (e : s.dec st = some d) : S F np w0 G0 N (s.enc d) a w := by
  obtain ⟨G, h⟩ := h
  obtain ⟨G', _, h2⟩ := spec_soundG hs h e
  exact ⟨G', h2⟩

theorem inject_sound {np : Nat} {w0 : World} {G0 : Gs} {N : Nat} : ∀ (alts : List (EK × Spec)) {ek : EK} {st : St} {a : Act} {w : World} {d : AltD alts}, alts.all (fun x => x.2.ok np N) = true → S F np w0 G0 N st a w → inject alts ek st = some d →
    ∃ st2, S F np w0 G0 N st2 a w ∧ ∀ {τ : Type} (k : EK → St → Option τ), dispatch alts d k = k ek st2
  | [], ek, st, a, w, d, _, _, h => by cases h
  | [x], ek, st, a, w, d, ho, hS, h => by
    simp only [inject] at h
    split at h
    · rename_i hek
      simp only [List.all_cons, List.all_nil, Bool.and_true] at ho
      exact ⟨x.2.enc d, spec_sound ho hS h, fun k => by rw [← hek]; rfl⟩
    · cases h
  | x :: y :: r, ek, st, a, w, d, ho, hS, h => by
    have ho2 : x.2.ok np N = true ∧ (y :: r).all (fun x => x.2.ok np N) = true := by
      rw [List.all_cons, Bool.and_eq_true] at ho; exact ho
    simp only [inject] at h
    split at h
    · rename_i d' hd
      split at hd
      · rename_i hek
        simp only [Option.some.injEq] at h
        subst h
        exact ⟨x.2.enc d', spec_sound ho2.1 hS hd, fun k => by rw [← hek]; rfl⟩
      · cases hd
    · simp only [Option.bind_eq_some_iff, Option.some.injEq] at h
      obtain ⟨d', h1, rfl⟩ := h
      obtain ⟨st2, h2, h3⟩ := inject_sound (y :: r) ho2.2 hS h1
      exact ⟨st2, h2, fun k => h3 k⟩

theorem know_sound {A : Nat → Prop} {w : World} {n : Nat} {G : Gs} {st : St} {a : Act} (h : Slots A w n G st.sl a.tmps) {c : Operand} {b : Bool} (hv : a.eval c = .bool b) :
    Slots A w n G (st.know c b).sl a.tmps ∧ (st.know c b).ob = st.ob ∧ (st.know c b).sl.length = st.sl.length := by
  cases c with
  | tmp i =>
    refine ⟨⟨by simp [St.know, h.1], fun j hj => ?_⟩, rfl, by simp [St.know]⟩
    have hj' : j < st.sl.length := by simpa [St.know] using hj
    by_cases e : i = j
    · subst e
      have e1 : (st.know (.tmp i) b).sl.getD i .dead = .bool b := by simp [St.know, List.getD, hj']
      rw [e1]
      have : a.tmps.getD i undef = .bool b := hv
      rw [this]; exact .bool b
    · have e1 : (st.know (.tmp i) b).sl.getD j .dead = st.sl.getD j .dead := by simp [St.know, List.getD, e]
      rw [e1]; exact h.2 j hj'
  | _ => exact ⟨h, rfl, rfl⟩

/-- No range over a function. -/
def Ann.flat : Ann → Bool
  | .seq a b => a.flat && b.flat
  | .join _ a b => a.flat && b.flat
  | .cond a b => a.flat && b.flat
  | .block a => a.flat
  | .loop _ _ a => a.flat
  | .unroll a b => a.flat && b.flat
  | .chunk _ _ _ _ _ _ _ => false
  | _ => true

def chunkR0 (tS tI tY tB : Nat) : List Oper := [{ dst := some 4, op := Op.assign (Operand.const (Value.int IntKind.i64 0)), type := tI, pos := "iter.go:103", after := #[], guard := none }]

def chunkR1 (tS tI tY tB : Nat) : List Oper := [{ dst := some 6, op := Op.move (Operand.tmp 4), type := tI, pos := "iter.go:103", after := #[], guard := none }, { dst := some 7, op := Op.load tS (Operand.tmp 1), type := tS, pos := "iter.go:103", after := #[], guard := none }, { dst := some 8, op := Op.call { callee := Callee.builtin Builtin.len, args := #[Operand.tmp 7], argTypes := #[tS] }, type := tI, pos := "iter.go:103", after := #[{ on := 1, ground := Ground.data }], guard := none }, { dst := some 9, op := Op.binOp BinOp.lss tI (Operand.tmp 6) (Operand.tmp 8) tI, type := tB, pos := "iter.go:103", after := #[{ on := 0, ground := Ground.data }, { on := 2, ground := Ground.data }], guard := none }]

def chunkR2 (tS tI tY tB : Nat) : List Oper := [{ dst := some 10, op := Op.move (Operand.tmp 4), type := tI, pos := "iter.go:103", after := #[], guard := none }, { dst := some 11, op := Op.load tI (Operand.tmp 2), type := tI, pos := "iter.go:103", after := #[], guard := none }, { dst := some 12, op := Op.binOp BinOp.add tI (Operand.tmp 10) (Operand.tmp 11) tI, type := tI, pos := "iter.go:103", after := #[{ on := 0, ground := Ground.data }, { on := 1, ground := Ground.data }], guard := none }, { dst := some 4, op := Op.assign (Operand.tmp 12), type := tI, pos := "iter.go:103", after := #[{ on := 2, ground := Ground.data }, { on := 0, ground := Ground.phase }, { on := 1, ground := Ground.phase }, { on := 2, ground := Ground.phase }], guard := none }]

def chunkR3 (tS tI tY tB : Nat) : List Oper := [{ dst := some 13, op := Op.load tI (Operand.tmp 2), type := tI, pos := "iter.go:105", after := #[], guard := none }, { dst := some 14, op := Op.load tS (Operand.tmp 1), type := tS, pos := "iter.go:105", after := #[], guard := none }, { dst := some 15, op := Op.move (Operand.tmp 4), type := tI, pos := "iter.go:105", after := #[], guard := none }, { dst := some 16, op := Op.slice tS (Operand.tmp 14) (some (Operand.tmp 15)) none none, type := tS, pos := "iter.go:105", after := #[{ on := 1, ground := Ground.data }, { on := 2, ground := Ground.data }], guard := none }, { dst := some 17, op := Op.call { callee := Callee.builtin Builtin.len, args := #[Operand.tmp 16], argTypes := #[tS] }, type := tI, pos := "iter.go:105", after := #[{ on := 3, ground := Ground.data }], guard := none }, { dst := some 18, op := Op.call { callee := Callee.builtin Builtin.min, args := #[Operand.tmp 13, Operand.tmp 17], argTypes := #[tI, tI] }, type := tI, pos := "iter.go:105", after := #[{ on := 0, ground := Ground.data }, { on := 4, ground := Ground.data }], guard := none }, { dst := some 5, op := Op.assign (Operand.tmp 18), type := tI, pos := "iter.go:105", after := #[{ on := 5, ground := Ground.data }, { on := 0, ground := Ground.phase }, { on := 1, ground := Ground.phase }, { on := 2, ground := Ground.phase }, { on := 3, ground := Ground.phase }, { on := 4, ground := Ground.phase }, { on := 5, ground := Ground.phase }], guard := none }]

def chunkR4 (tS tI tY tB : Nat) : List Oper := [{ dst := some 19, op := Op.move (Operand.tmp 0), type := tY, pos := "iter.go:109", after := #[], guard := none }, { dst := some 20, op := Op.load tS (Operand.tmp 1), type := tS, pos := "iter.go:109", after := #[], guard := none }, { dst := some 21, op := Op.move (Operand.tmp 4), type := tI, pos := "iter.go:109", after := #[], guard := none }, { dst := some 22, op := Op.move (Operand.tmp 4), type := tI, pos := "iter.go:109", after := #[], guard := none }, { dst := some 23, op := Op.move (Operand.tmp 5), type := tI, pos := "iter.go:109", after := #[], guard := none }, { dst := some 24, op := Op.binOp BinOp.add tI (Operand.tmp 22) (Operand.tmp 23) tI, type := tI, pos := "iter.go:109", after := #[{ on := 3, ground := Ground.data }, { on := 4, ground := Ground.data }], guard := none }, { dst := some 25, op := Op.move (Operand.tmp 4), type := tI, pos := "iter.go:109", after := #[], guard := none }, { dst := some 26, op := Op.move (Operand.tmp 5), type := tI, pos := "iter.go:109", after := #[], guard := none }, { dst := some 27, op := Op.binOp BinOp.add tI (Operand.tmp 25) (Operand.tmp 26) tI, type := tI, pos := "iter.go:109", after := #[{ on := 6, ground := Ground.data }, { on := 7, ground := Ground.data }], guard := none }, { dst := some 28, op := Op.slice tS (Operand.tmp 20) (some (Operand.tmp 21)) (some (Operand.tmp 24)) (some (Operand.tmp 27)), type := tS, pos := "iter.go:109", after := #[{ on := 1, ground := Ground.data }, { on := 2, ground := Ground.data }, { on := 5, ground := Ground.data }, { on := 8, ground := Ground.data }], guard := none }, { dst := some 29, op := Op.call { callee := Callee.value (Operand.tmp 19), args := #[Operand.tmp 28], argTypes := #[tS] }, type := tB, pos := "iter.go:109", after := #[{ on := 0, ground := Ground.data }, { on := 9, ground := Ground.data }], guard := none }, { dst := some 30, op := Op.unOp UnOp.not tB (Operand.tmp 29), type := tB, pos := "iter.go:109", after := #[{ on := 10, ground := Ground.data }], guard := none }]

/-- The body of slices.Chunk's function. -/
def chunkBody (tS tI tY tB : Nat) : Code :=
  ((Code.region 0 (chunkR0 tS tI tY tB).toArray false).seq (Code.block 0 (((Code.region 1 (chunkR1 tS tI tY tB).toArray false).seq (Code.cond (Operand.tmp 9) Code.skip (Code.exit 0))).seq ((Code.block 1 ((Code.region 3 (chunkR3 tS tI tY tB).toArray true).seq ((Code.region 4 (chunkR4 tS tI tY tB).toArray false).seq (Code.cond (Operand.tmp 30) Code.ret Code.skip)))).seq (Code.region 2 (chunkR2 tS tI tY tB).toArray false))).loop))

def Ann.ok (P : Program) (np N : Nat) : Ann → Prop
  | .std => True
  | .reg hs => ∀ h ∈ hs, OAok P h
  | .drw hs => ∀ h ∈ hs, OAok P h ∧ h.nat
  | .seq a b => a.ok P np N ∧ b.ok P np N
  | .join alts a b => alts.all (fun x => x.2.ok np N) = true ∧ a.ok P np N ∧ b.ok P np N
  | .cond a b => a.ok P np N ∧ b.ok P np N
  | .block a => a.ok P np N
  | .loop h alts a => h.ok np N = true ∧ alts.all (fun x => x.2.ok np N) = true ∧ a.ok P np N
  | .unroll a b => a.ok P np N ∧ b.ok P np N
  | .chunk fid tS tI _ h a b => h.ok np N = true ∧ (∃ fn tY tB, P.funcs[fid]? = some fn ∧ fn.body = some (chunkBody tS tI tY tB) ∧ fn.ntmps = 31 ∧ fn.results = #[] ∧ fn.name ≠ "runtime.NumGoroutine") ∧
      (a.flat = true ∧ b.flat = true) ∧ a.ok P h.objs.length N ∧ b.ok P h.objs.length N

def Ann.len : Ann → Nat
  | .unroll _ b => b.len + 1
  | _ => 0


end

end Go.Proofs.YtlbammfnkphajaaGreatDoor.Abs
