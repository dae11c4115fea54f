/- Regions; typed cuts. -/
import Derived.Test.YtiodpeekbeahlaaGreatDoorAbsDraw
import Derived.Test.YtiodpeekbeahlaaGreatDoorAbsShape
import Derived.Test.YtiodpeekbeahlaaGreatDoorAbsWide
namespace Go.Proofs.YtiodpeekbeahlaaGreatDoor.Abs
open Go

section
variable {F : Nat → Prop} {P : Program} {TT : Nat → TI} {ρ : Type} {r : ρ} {np : Nat} {w0 : World} {G0 : Gs} {N : Nat}

/-! ### The state and the world -/

/-- What became of the world since a call began. -/
structure Tr (np : Nat) (w0 : World) (G0 : Gs) (w : World) (G : Gs) (n : Nat) : Prop where
  t : Trans np w0 G0 w G
  le : np ≤ n

theorem Tr.step {np : Nat} {w0 w w' : World} {G0 G G' : Gs} {n n' : Nat} (h : Tr np w0 G0 w G n) (t : Trans n w G w' G') (hn : n ≤ n') : Tr np w0 G0 w' G' n' := ⟨h.t.trans t h.le, Nat.le_trans h.le hn⟩

/-- What has been laid for the rounds' deferred calls: nothing is deferred. -/
def Marks (w : World) (G : Gs) (n0 : Nat) (ds : List Deferred) : Prop :=
  (∀ d ∈ ds, ∃ D, d.target = .collected D ∧ w.heap[D]? = some (.deferred (some [])) ∧ ¬ G.has D ∧ n0 ≤ D) ∧ ds.Pairwise fun d e => d.target ≠ e.target

theorem Marks.nil {w : World} {G : Gs} {n0 : Nat} : Marks w G n0 [] := ⟨(fun d h => by cases h), List.Pairwise.nil⟩

theorem Marks.sub {w : World} {G G' : Gs} {n0 : Nat} {ds : List Deferred} (h : Marks w G n0 ds) (hs : ∀ b, G'.has b → G.has b) : Marks w G' n0 ds :=
  ⟨fun d hd => let ⟨D, h1, h2, h3, h4⟩ := h.1 d hd; ⟨D, h1, h2, fun q => h3 (hs D q), h4⟩, h.2⟩

theorem Marks.step {w w' : World} {G G' : Gs} {n n0 : Nat} {ds : List Deferred} (h : Marks w G n0 ds) (t : Trans n w G w' G') : Marks w' G' n0 ds :=
  ⟨fun d hd => by
    obtain ⟨D, h1, h2, h3, h4⟩ := h.1 d hd
    have hlt : D < w.heap.size := (Array.getElem?_eq_some_iff.1 h2).1
    refine ⟨D, h1, (t.frame D hlt h3).trans h2, fun q => ?_, h4⟩
    rcases t.own D q with q | q
    · exact h3 q
    · omega, h.2⟩

/-- What holds between the abstract state and the model's frame and world, in a call that began in w0 with np objects at the places G0. -/
def S (F : Nat → Prop) (np : Nat) (w0 : World) (G0 : Gs) (N : Nat) (st : St) (a : Act) (w : World) : Prop :=
  ∃ G, Inv F w G st.ob ∧ Slots (avoid F G) w st.ob.length G st.sl a.tmps ∧ Tr np w0 G0 w G st.ob.length ∧ Marks w G w0.heap.size a.defers ∧ st.sl.length = N

theorem put_defers (a : Act) (d : Option Tmp) (v : Value) : (a.put d v).defers = a.defers := by cases d <;> rfl

theorem Slots.putO {A : Nat → Prop} {w : World} {n : Nat} {G : Gs} {sl : List AV} {a : Act} (h : Slots A w n G sl a.tmps) {x : AV} {v : Value} (hx : Rep A w n G x v) (d : Option Nat) (ob : List AO) :
    Slots A w n G (({ sl := sl, ob := ob } : St).put d x).sl (a.put d v).tmps ∧ (({ sl := sl, ob := ob } : St).put d x).sl.length = sl.length ∧ (({ sl := sl, ob := ob } : St).put d x).ob = ob := by
  cases d with
  | none => exact ⟨h, rfl, rfl⟩
  | some d => exact ⟨h.put hx d, by simp [St.put], rfl⟩

/-! ### Arrays that are given up -/

theorem frz1_rep {w : World} {G : Gs} {ob : List AO} (inv : Inv F w G ob) {j : Nat} {T : Ty} {xs : List T.D} (ho : ob.getD j .dead = .arr T xs) {x : AV} {v : Value} (hx : Rep (avoid F G) w ob.length G x v) :
    Rep (avoid F fun i => if i = j then none else G i) w ob.length (fun i => if i = j then none else G i) (frz1 j T xs x) v := by
  have hA : ∀ b, avoid F (fun i => if i = j then none else G i) b → F b ∨ ∃ j' g, G j' = some g ∧ g.blk = some b ∧ j' ≠ j := by
    rintro b (h | ⟨i, g, hg, hb⟩)
    · exact .inl h
    · by_cases e : i = j
      · simp [e] at hg
      · simp only [e, if_false] at hg
        exact .inr ⟨i, g, hg, hb, e⟩
  have hA2 : ∀ b, avoid F (fun i => if i = j then none else G i) b → avoid F G b := fun b hb => by
    rcases hA b hb with h | ⟨i, g, h1, h2, _⟩
    · exact .inl h
    · exact .inr ⟨i, g, h1, h2⟩
  have st : Stays (avoid F G) w ob.length G (avoid F fun i => if i = j then none else G i) w ob.length (fun i => if i = j then none else G i) :=
    ⟨fun b _ _ hb => ⟨rfl, fun h => hb (hA2 b h)⟩, Nat.le_refl _, fun i _ => by
      by_cases e : i = j
      · exact .inl (by simp [e])
      · exact .inr (by simp [e])⟩
  cases x <;> simp only [frz1] <;> try exact hx.stays st
  · rename_i i
    split
    · rename_i e
      subst e
      exact frozen_rep inv (x := .slw i) (by simp only [listOf]; rw [ho]; exact dif_pos rfl) rfl rfl hx hA
    · exact hx.stays st
  · rename_i i off len
    split
    · rename_i e
      subst e
      exact frozen_rep inv (x := .sl i off len) (by simp only [listOf]; rw [ho]; exact dif_pos rfl) rfl rfl hx hA
    · exact hx.stays st

theorem frzA_rep {w : World} {G : Gs} {ob : List AO} (inv : Inv F w G ob) {j : Nat} {T : Ty} {xs : List T.D} (ho : ob.getD j .dead = .arr T xs) {x : AV} {v : Value} (hx : Rep (avoid F G) w ob.length G x v) :
    Rep (avoid F fun i => if i = j then none else G i) w ob.length (fun i => if i = j then none else G i) (frzA j T xs x) v := by
  cases x <;> simp only [frzA] <;> try exact frz1_rep inv ho hx
  · rename_i cs
    cases hx with
    | agg _ vs hl hr =>
      refine .agg _ vs (by simpa using hl) fun i hi => ?_
      have hi' : i < cs.length := by simpa using hi
      have e : (cs.map (frz1 j T xs)).getD i .dead = frz1 j T xs (cs.getD i .dead) := by simp [List.getD, hi']
      rw [e]; exact frz1_rep inv ho (hr i hi')
  · rename_i cs
    cases hx with
    | tup _ vs hl hr =>
      refine .tup _ vs (by simpa using hl) fun i hi => ?_
      have hi' : i < cs.length := by simpa using hi
      have e : (cs.map (frz1 j T xs)).getD i .dead = frz1 j T xs (cs.getD i .dead) := by simp [List.getD, hi']
      rw [e]; exact frz1_rep inv ho (hr i hi')

theorem frz_sound {st : St} {a : Act} {w : World} (h : S F np w0 G0 N st a w) (j : Nat) : S F np w0 G0 N (st.frz j) a w := by
  obtain ⟨G, inv, hsl, htr, hdf, hN⟩ := h
  unfold St.frz
  split
  case h_2 => exact ⟨G, inv, hsl, htr, hdf, hN⟩
  rename_i T xs ho
  have hlen : ((st.ob.map (frzO j T xs)).set j AO.dead).length = st.ob.length := by simp
  have hhas : ∀ b, Gs.has (fun i => if i = j then none else G i) b → G.has b := by
    rintro b ⟨i, g, hg, hb⟩
    by_cases e : i = j
    · simp [e] at hg
    · simp only [e, if_false] at hg; exact ⟨i, g, hg, hb⟩
  have hA2 : ∀ b, avoid F (fun i => if i = j then none else G i) b → avoid F G b := fun b hb => by
    rcases hb with h | h
    · exact .inl h
    · exact .inr (hhas b h)
  have hget : ∀ i, i ≠ j → ((st.ob.map (frzO j T xs)).set j AO.dead).getD i .dead = frzO j T xs (st.ob.getD i .dead) := by
    intro i hi
    have hi' : j ≠ i := fun e => hi e.symm
    simp only [List.getD, List.getElem?_set, hi', if_false, List.getElem?_map]
    cases st.ob[i]? <;> rfl
  have hgetj : ((st.ob.map (frzO j T xs)).set j AO.dead).getD j .dead = .dead := by
    simp only [List.getD, List.getElem?_set]
    by_cases hj : j < st.ob.length
    · simp [hj]
    · simp [hj]
  refine ⟨fun i => if i = j then none else G i, ⟨fun i g hg => ?_, fun i hi g hg => ?_, fun i hi hn => ?_, fun i i' g g' b hg hg' hb hb' => ?_, fun i g b hg hb => ?_, inv.old⟩, ?_, ?_, hdf.sub hhas, by simpa using hN⟩
  · by_cases e : i = j
    · simp [e] at hg
    · simp only [e, if_false] at hg
      rw [hlen]; exact inv.dom i g hg
  · by_cases e : i = j
    · simp [e] at hg
    · simp only [e, if_false] at hg
      rw [hlen] at hi ⊢
      rw [hget i e]
      have hobj := inv.live i hi g hg
      cases hoi : st.ob.getD i .dead with
      | dead => rw [hoi] at hobj; exact hobj
      | arr T' ys => rw [hoi] at hobj; exact hobj.arrFlat hA2
      | map K V es => rw [hoi] at hobj; exact hobj.mapFlat hA2
      | box cs =>
        rw [hoi] at hobj
        obtain ⟨h1, h2, b, hb, C, hrow, hrep⟩ := hobj
        refine ⟨h1, by simpa using h2, b, hb, C, by simpa using hrow, fun q hq => ?_⟩
        have hq' : q < cs.length := by simpa using hq
        have e2 : (cs.map (frz1 j T xs)).getD q .dead = frz1 j T xs (cs.getD q .dead) := by simp [List.getD, hq']
        rw [e2]; exact frz1_rep inv ho (hrep q hq')
  · by_cases e : i = j
    · rw [e]; exact hgetj
    · simp only [e, if_false] at hn
      rw [hlen] at hi
      rw [hget i e, inv.there i hi hn]; rfl
  · by_cases e : i = j
    · simp [e] at hg
    · by_cases e' : i' = j
      · simp [e'] at hg'
      · simp only [e, if_false] at hg
        simp only [e', if_false] at hg'
        exact inv.inj i i' g g' b hg hg' hb hb'
  · by_cases e : i = j
    · simp [e] at hg
    · simp only [e, if_false] at hg
      exact inv.free i g b hg hb
  · show Slots _ _ ((st.ob.map (frzO j T xs)).set j AO.dead).length _ _ _
    rw [hlen]
    refine ⟨by simpa using hsl.1, fun i hi => ?_⟩
    have hi' : i < st.sl.length := by simpa using hi
    have e : (st.sl.map (frzA j T xs)).getD i .dead = frzA j T xs (st.sl.getD i .dead) := by simp [List.getD, hi']
    rw [e]; exact frzA_rep inv ho (hsl.2 i hi')
  · show Tr np w0 G0 w _ ((st.ob.map (frzO j T xs)).set j AO.dead).length
    rw [hlen]
    refine ⟨⟨htr.t.os, htr.t.tape, htr.t.output, htr.t.size, htr.t.frame, fun b hb => htr.t.own b (hhas b hb), fun i hi => ?_⟩, htr.le⟩
    by_cases e : i = j
    · exact .inl (by simp [e])
    · rcases htr.t.keep i hi with h | h
      · exact .inl (by simp [e, h])
      · exact .inr (by simp [e, h])

theorem frzAll_sound : ∀ (js : List Nat) {st : St} {a : Act} {w : World}, S F np w0 G0 N st a w → S F np w0 G0 N (st.frzAll js) a w
  | [], _, _, _, h => h
  | j :: js, _, _, _, h => frzAll_sound js (frz_sound h j)

/-! ### Regions -/

theorem opK_nodefer {h : OA} {o : Op} {s : List AV} {ob : List AO} {k : AV → List AO → Option ρ} (e : opK TT h o s ob k = some r) : ∀ c, o ≠ .defer c := by
  rintro c rfl
  cases e

theorem opsK_sound (tt : TTok P TT) {ops : Array Oper} {Q : Exit → Act → World → Prop} {np : Nat} {w0 : World} {G0 : Gs} {N : Nat} {k : St → Option ρ} {d0 : List Deferred}
    (hk : ∀ st a w, a.defers = d0 → S F np w0 G0 N st a w → k st = some r → Q .normal a w) :
    ∀ (os : List Oper) (hs : List OA) (st : St) (a : Act) (w : World), (∀ h ∈ hs, OAok P h) → a.defers = d0 → S F np w0 G0 N st a w → opsK TT ops.toList os hs st k = some r → wpL P ops Q os a w
  | [], _, st, a, w, _, hdd, hS, e => hk st a w hdd hS (by simpa [opsK] using e)
  | o :: os, hs, st, a, w, hok, hdd, hS, e => by
    have hh : OAok P (hs.headD .std) := by
      cases hs with
      | nil => exact trivial
      | cons h hs => exact hok h (by simp)
    have ht : ∀ h ∈ hs.tail, OAok P h := fun h hm => hok h (List.mem_of_mem_tail hm)
    have hh := hh.bare
    simp only [opsK] at e
    have hS := frzAll_sound (hs.headD .std).pre hS
    generalize st.frzAll (hs.headD .std).pre = st at e hS
    generalize (hs.headD .std).bare = hd at e hh
    have run : ∀ (sl : List AV), (∃ G, Inv F w G st.ob ∧ Slots (avoid F G) w st.ob.length G sl a.tmps ∧ Tr np w0 G0 w G st.ob.length ∧ Marks w G w0.heap.size a.defers ∧ sl.length = N) →
        (opK TT hd o.op sl st.ob fun v ob => opsK TT ops.toList os hs.tail (({ sl := sl, ob := ob } : St).put o.dst v) k) = some r →
        (∀ c, o.op ≠ .defer c) ∧ o.wp P a w (wpL P ops Q os) Q := by
      rintro sl ⟨G, inv, hsl, htr, hdf, hN⟩ e
      refine ⟨opK_nodefer e, opK_sound tt hh inv hsl e _ _ ?_⟩
      rintro x w' ⟨v, ob', G', h1, h2, h3, h4, h5⟩
      have hst := h4.stays (F := F) h5
      obtain ⟨p1, p2, p3⟩ := (hsl.stays hst).putO h2 o.dst ob'
      exact opsK_sound tt hk os hs.tail _ _ _ ht (by rw [put_defers]; exact hdd) ⟨G', by rw [p3]; exact h3, by rw [p3]; exact p1, by rw [p3]; exact htr.step h4 h5, by rw [put_defers]; exact hdf.step h4, by rw [p2]; exact hN⟩ h1
    unfold wpL
    cases hg : o.guard with
    | none =>
      rw [hg] at e
      simp only at e
      rw [if_pos (by simp [Region.wanted, hg])]
      obtain ⟨G, inv, hsl, htr, hdf, hN⟩ := hS
      exact (run st.sl ⟨G, inv, hsl, htr, hdf, hN⟩ e)
    | some gw =>
      obtain ⟨g, want⟩ := gw
      rw [hg] at e
      simp only at e
      obtain ⟨G, inv, hsl, htr, hdf, hN⟩ := hS
      split at e
      · cases e
      · rename_i d hd
        have hdst : ((ops[g]?).bind (·.dst)) = some d := by
          simpa using hd
        have hy : yielded ops a.tmps g = match a.tmps[d]? with | some (.bool b) => some b | _ => none := by
          unfold yielded
          rw [hdst]
          rfl
        have hrep := hsl.eval (a := a) d
        split at e
        · rename_i b hb
          rw [hb] at hrep
          have htd : a.tmps[d]? = some (.bool b) := by
            by_cases hlt : d < a.tmps.size
            · generalize hv : a.tmps.getD d undef = v at hrep
              cases hrep
              simp [Array.getD, hlt] at hv
              simp [hlt, hv]
            · exfalso
              have hlen := hsl.1
              have hle : st.sl.length ≤ d := by rw [hlen]; exact Nat.le_of_not_lt hlt
              have : st.sl.getD d .dead = .dead := by simp [List.getD, List.getElem?_eq_none hle]
              rw [this] at hb; cases hb
          have hyb : yielded ops a.tmps g = some b := by rw [hy, htd]
          have hset : ∀ b', b' = b → Slots (avoid F G) w st.ob.length G (st.sl.set d (.bool b')) a.tmps := by
            intro b' hb'
            subst hb'
            refine ⟨by simp [hsl.1], fun i hi => ?_⟩
            have hi' : i < st.sl.length := by simpa using hi
            by_cases e2 : d = i
            · subst e2
              have e3 : (st.sl.set d (.bool b')).getD d .dead = .bool b' := by simp [List.getD, hi']
              rw [e3]; exact hrep
            · have e3 : (st.sl.set d (.bool b')).getD i .dead = st.sl.getD i .dead := by simp [List.getD, e2]
              rw [e3]; exact hsl.2 i hi'
          split at e
          · rename_i hbw
            rw [if_pos (by simp [Region.wanted, hg, hyb, hbw])]
            exact (run _ ⟨G, inv, hset want hbw.symm, htr, hdf, by simp [hN]⟩ e)
          · rename_i hbw
            rw [if_neg (by simp [Region.wanted, hg, hyb, hbw])]
            have hb2 : (!want) = b := by cases want <;> cases b <;> simp_all
            obtain ⟨p1, p2, p3⟩ := (hset (!want) hb2).putO (.undef) o.dst st.ob
            exact opsK_sound tt hk os hs.tail _ _ _ ht (by rw [put_defers]; exact hdd) ⟨G, by rw [p3]; exact inv, by rw [p3]; exact p1, by rw [p3]; exact htr, by rw [put_defers]; exact hdf, by rw [p2]; simpa using hN⟩ e
        · rename_i hb
          rw [hb] at hrep
          have hyn : yielded ops a.tmps g ≠ some want := by
            rw [hy]
            generalize hv : a.tmps.getD d undef = v at hrep
            cases hrep
            by_cases hlt : d < a.tmps.size
            · simp [Array.getD, hlt] at hv
              simp [hlt, hv, Go.undef]
            · simp [Array.getElem?_eq_none (Nat.le_of_not_lt hlt)]
          rw [if_neg (by simp [Region.wanted, hg, hyn])]
          obtain ⟨p1, p2, p3⟩ := hsl.putO (.undef) o.dst st.ob
          exact opsK_sound tt hk os hs.tail _ _ _ ht (by rw [put_defers]; exact hdd) ⟨G, by rw [p3]; exact inv, by rw [p3]; exact p1, by rw [p3]; exact htr, by rw [put_defers]; exact hdf, by rw [p2]; exact hN⟩ e
        · cases e

/-! ### Regions that draw their order -/

theorem hs_getD {hs : List OA} (h : ∀ x ∈ hs, OAok P x) (i : Nat) : OAok P (hs.getD i .std) := by
  by_cases hi : i < hs.length
  · have : hs.getD i .std = hs[i] := by simp [List.getD, hi]
    rw [this]; exact h _ (List.getElem_mem hi)
  · have : hs.getD i .std = .std := by simp [List.getD, List.getElem?_eq_none (Nat.le_of_not_lt hi)]
    rw [this]; trivial

open Classical in
/-- The slots while some of the operations are done. -/
noncomputable def mixed (l : List Oper) (m : Nat) (s0 sF : List AV) (listed : Array Bool) (t : Nat) : AV :=
  if ∃ j o, j < m ∧ l[j]? = some o ∧ o.dst = some t ∧ listed.getD j false = true then sF.getD t .dead else s0.getD t .dead

theorem draw_split {ops : List Oper} {hs : List OA} {pairs : List Oper → List OA → Nat → Bool} (hd : ((drwOps ops ops 0 [] = true ∧ (drwKinds ops hs ops.length = true ∧ pairs ops hs ops.length = true)) ∨
    ((drwOps ops ops.dropLast 0 [] = true ∧ (drwKinds ops hs (ops.length - 1) = true ∧ pairs ops hs (ops.length - 1) = true)) ∧ (lastPlain ops = true ∧ ((List.range (ops.length - 1)).all fun i => near ops 3 (ops.length - 1) i) = true)))) :
    ∃ os1 os2, ops = os1 ++ os2 ∧ drwOps ops os1 0 [] = true ∧ (∀ i o, os1[i]? = some o → (hs.getD i .std).still o.op = true ∨ (hs.getD i .std).wr o = true) ∧ pairs ops hs os1.length = true ∧
      (os2 = [] ∨ ∃ o, os2 = [o] ∧ o.guard = none ∧ ∀ i, i < os1.length → near ops 3 os1.length i = true) := by
  rcases hd with ⟨hdw, hki, hpa⟩ | ⟨⟨hdw, hki, hpa⟩, hlg, hla⟩
  · refine ⟨ops, [], by simp, hdw, fun i o hi => ?_, hpa, .inl rfl⟩
    exact drwKinds_spec hki hi (List.getElem?_eq_some_iff.1 hi).1
  · by_cases hne : ops = []
    · subst hne
      exact ⟨[], [], rfl, rfl, (fun i o hi => by simp at hi), hpa, .inl rfl⟩
    · have hdl : ops.dropLast.length = ops.length - 1 := List.length_dropLast
      refine ⟨ops.dropLast, [ops.getLast hne], (List.dropLast_concat_getLast hne).symm, hdw, fun i o hi => ?_, by rw [hdl]; exact hpa, .inr ⟨_, rfl, lastPlain_spec ops.dropLast _ (by rw [List.dropLast_concat_getLast hne]; exact hlg), fun i hi => ?_⟩⟩
      · have hlt : i < ops.dropLast.length := (List.getElem?_eq_some_iff.1 hi).1
        have hi2 : ops[i]? = some o := by
          rw [List.getElem?_dropLast] at hi
          split at hi
          · exact hi
          · cases hi
        exact drwKinds_spec hki hi2 (by rw [← hdl]; exact hlt)
      · rw [List.length_dropLast] at hi ⊢
        exact List.all_eq_true.1 hla i (List.mem_range.2 hi)

/-- A region that draws its order, by its run in the order of the text. -/
theorem draw_core (tt : TTok P TT) {ops : Array Oper} {Q : Exit → Act → World → Prop} {np : Nat} {w0 : World} {G0 : Gs} {N : Nat} {k : St → Option ρ} {d0 : List Deferred} {hs : List OA}
    (hok : ∀ h ∈ hs, OAok P h) {st : St} {a : Act} {w : World} (hdd : a.defers = d0) (hS : S F np w0 G0 N st a w) {os1 os2 : List Oper} (hl : ops.toList = os1 ++ os2) (hplain : hs.all OA.plain = true) (hback : drwBack ops.toList 0 = true) (hdw : drwOps ops.toList os1 0 [] = true)
    (hstill : ∀ i o, os1[i]? = some o → (hs.getD i .std).still o.op = true ∨ (hs.getD i .std).wr o = true) {vs : List (AV × List AO)} {sF : List AV} {obF : List AO} (hrun : Run (TT := TT) (os1 ++ os2) os1 hs st.sl st.ob vs sF obF)
    (hpairs : ∀ w j o p, ops.toList[w]? = some o → ops.toList[j]? = some p → w < os1.length → j < os1.length → (hs.getD w .std).wr o = true → j ≠ w → (hs.getD j .std).blind p.op = false → (j < w → near ops.toList 5 w j = true ∨ (opAdds o.op = true ∧ opMono p.op = true) ∨ (opMono p.op = true ∧ ∀ q, monoPtr sF p.op = some q → (obAt vs obF (w + 1)).getD q .dead = (obAt vs obF w).getD q .dead)) ∧
      (w < j → near ops.toList 5 j w = true ∨ (opMono p.op = true ∧ ∀ q, monoPtr sF p.op = some q → (obAt vs obF (w + 1)).getD q .dead = (obAt vs obF w).getD q .dead)))
    (hos2 : os2 = [] ∨ ∃ o, os2 = [o] ∧ o.guard = none ∧ ∀ i, i < os1.length → near ops.toList 3 os1.length i = true) (e2 : opsK TT (os1 ++ os2) os2 (hs.drop os1.length) ⟨sF, obF⟩ k = some r)
    (hk : ∀ st a w, a.defers = d0 → S F np w0 G0 N st a w → k st = some r → Q .normal a w) : wpAnyL P ops Q ops.size (Array.replicate ops.size false) a { w with drawn := w.drawn + 1 } := by
  obtain ⟨G, inv, hsl, htr, hdf, hN⟩ := hS
  have hfacts := run_facts hrun 0 [] (by rw [← hl]; exact hdw) hstill
  have hol := run_oblen hrun
  have hstat := drwOps_static _ 0 [] hdw
  have hbk := drwBack_spec _ 0 hback
  have hFl : sF.length = N := (run_len hrun).trans hN
  have hget : ∀ i o, os1[i]? = some o → ops.toList[i]? = some o := fun i o hi => by
    rw [hl, List.getElem?_append_left (List.getElem?_eq_some_iff.1 hi).1]; exact hi
  have hget' : ∀ i o, ops.toList[i]? = some o → i < os1.length → os1[i]? = some o := fun i o hi hlt => by
    rw [hl, List.getElem?_append_left hlt] at hi; exact hi
  have hkeep : ∀ t, (∀ j o, j < os1.length → ops.toList[j]? = some o → o.dst ≠ some t) → sF.getD t .dead = st.sl.getD t .dead := fun t ht =>
    run_keep hrun fun p hp => by
      obtain ⟨j, hj, rfl⟩ := List.getElem_of_mem hp
      exact ht j _ hj (hget j _ (List.getElem?_eq_getElem hj))
  have hsz : ops.toList.length = ops.size := Array.length_toList
  -- all listed
  have hready : ∀ listed : Array Bool, listed.size = ops.size → Region.ready .any ops listed = [] → ∀ j, j < ops.size → listed.getD j false = true := by
    intro listed hls hr j
    induction j using Nat.strongRecOn with
    | _ j ihj =>
      intro hj
      by_cases hlj : listed.getD j false = true
      · exact hlj
      · exfalso
        have ho : ops[j]? = some ops[j] := Array.getElem?_eq_getElem hj
        have : j ∈ Region.ready .any ops listed := mem_ready.2 ⟨by
          simp only [Bool.not_eq_true] at hlj
          have hs : j < listed.size := by omega
          simp [Array.getD, hs] at hlj ⊢; exact hlj, ops[j], ho, fun e he hb => by
          have h1 := hbk j ops[j] (by simp) e (by simpa using he) hb
          have h2 : e.on < j := by omega
          exact ihj e.on h2 (by omega)⟩
        rw [hr] at this
        cases this
  have hall : ∀ listed : Array Bool, (∀ j, j < ops.size → listed.getD j false = true) → Region.ready .any ops listed = [] := by
    intro listed h
    rw [List.eq_nil_iff_forall_not_mem]
    intro j hj
    obtain ⟨h1, o, ho, _⟩ := mem_ready.1 hj
    have hlt := (Array.getElem?_eq_some_iff.1 ho).1
    have h2 := h j hlt
    by_cases hs : j < listed.size
    · simp [Array.getD, hs] at h1 h2; rw [h1] at h2; cases h2
    · simp [Array.getD, hs] at h2
  have hmixF : ∀ listed : Array Bool, (∀ j, j < os1.length → listed.getD j false = true) → ∀ t, mixed ops.toList os1.length st.sl sF listed t = sF.getD t .dead := by
    intro listed h t
    unfold mixed
    split
    · rfl
    · rename_i hno
      refine (hkeep t fun j o hj ho hd => hno ⟨j, o, hj, ho, hd, h j hj⟩).symm
  -- which writes are done
  let At : Array Bool → Nat → Prop := fun listed m => m ≤ os1.length ∧ ∀ j o, os1[j]? = some o → (hs.getD j .std).wr o = true → (listed.getD j false = true ↔ j < m)
  have hseg : ∀ (a b : Nat), a ≤ b → b ≤ os1.length → (∀ j o, a ≤ j → j < b → os1[j]? = some o → ¬ (hs.getD j .std).wr o = true) → obAt vs obF a = obAt vs obF b := by
    intro a b hab hb h
    refine obAt_eq hab fun j h1 h2 => ?_
    have hj : os1[j]? = some os1[j] := List.getElem?_eq_getElem (by omega)
    exact (hfacts j _ hj).2.2 ((hstill j _ hj).resolve_right (h j _ h1 h2 hj))
  -- the induction
  have key : ∀ (fuel : Nat) (listed : Array Bool) (a : Act) (w : World), listed.size = ops.size →
      (∀ j o, ops[j]? = some o → listed.getD j false = true → ∀ e ∈ o.after.toList, Region.binds .any e = true → listed.getD e.on false = true) →
      (os1.length < ops.size → listed.getD os1.length false = false) → ((List.range ops.size).filter fun i => !listed.getD i false).length ≤ fuel →
      (∃ G m, At listed m ∧ Inv F w G (obAt vs obF m) ∧ a.tmps.size = N ∧ (∀ i, i < N → Rep (avoid F G) w (obAt vs obF m).length G (mixed ops.toList os1.length st.sl sF listed i) (a.tmps.getD i undef)) ∧ Tr np w0 G0 w G (obAt vs obF m).length ∧ (a.defers = d0 ∧ Marks w G w0.heap.size a.defers)) →
      wpAnyL P ops Q fuel listed a w := by
    intro fuel
    -- the end, where nothing is left
    have hend : ∀ (listed : Array Bool) (a : Act) (w : World), listed.size = ops.size → (os1.length < ops.size → listed.getD os1.length false = false) →
        (∃ G m, At listed m ∧ Inv F w G (obAt vs obF m) ∧ a.tmps.size = N ∧ (∀ i, i < N → Rep (avoid F G) w (obAt vs obF m).length G (mixed ops.toList os1.length st.sl sF listed i) (a.tmps.getD i undef)) ∧ Tr np w0 G0 w G (obAt vs obF m).length ∧ (a.defers = d0 ∧ Marks w G w0.heap.size a.defers)) →
        Region.ready .any ops listed = [] → Q .normal a w := by
      rintro listed a w hls hml ⟨G, m, ⟨hm1, hm2⟩, inv, hN', hrep, htr, hdf⟩ hr
      have hal := hready listed hls hr
      have hob : obAt vs obF m = obF := by
        rw [hseg m os1.length hm1 (Nat.le_refl _) fun j o h1 h2 hj hw => ?_, run_end hrun]
        have := (hm2 j o hj hw).1 (hal j (by
          have h3 := congrArg List.length hl
          rw [List.length_append, hsz] at h3
          omega))
        omega
      simp only [hob] at inv hrep htr
      have hlen : os1.length = ops.size := by
        have h1 : os1.length ≤ ops.size := by rw [← hsz, hl, List.length_append]; omega
        rcases Nat.lt_or_ge os1.length ops.size with h2 | h2
        · have h3 := hml h2
          rw [hal _ h2] at h3; cases h3
        · omega
      have hnil : os2 = [] := by
        have h1 := congrArg List.length hl
        rw [List.length_append, hsz] at h1
        exact List.length_eq_zero_iff.1 (by omega)
      subst hnil
      refine hk ⟨sF, obF⟩ a w hdf.1 ⟨G, inv, ⟨by rw [hN']; exact hFl, fun i hi => ?_⟩, htr, hdf.2, hFl⟩ (by simpa [opsK] using e2)
      have := hrep i (by rw [← hFl]; exact hi)
      rw [hmixF listed (fun j hj => hal j (by omega))] at this
      exact this
    induction fuel with
    | zero =>
      intro listed a w hls hcl hml hcnt hI
      have hr : Region.ready .any ops listed = [] := hall listed fun j hj => by
        have h0 : (List.range ops.size).filter (fun i => !listed.getD i false) = [] := List.length_eq_zero_iff.1 (by omega)
        rw [List.filter_eq_nil_iff] at h0
        have := h0 j (List.mem_range.2 hj)
        simpa using this
      exact ⟨hr, hend listed a w hls hml hI hr⟩
    | succ fuel ih =>
      intro listed a w hls hcl hml hcnt hI
      refine ⟨hend listed a w hls hml hI, fun i hi => ?_⟩
      obtain ⟨hli, o, ho, haft⟩ := mem_ready.1 hi
      have hilt := (Array.getElem?_eq_some_iff.1 ho).1
      have hol' : ops.toList[i]? = some o := by simpa using ho
      have hli' : listed.getD i false = false := by
        have : i < listed.size := by omega
        simp [Array.getD, this] at hli ⊢; exact hli
      have hset : ∀ j, (listed.setIfInBounds i true).getD j false = if j = i then true else listed.getD j false := by
        intro j
        by_cases hji : j = i
        · subst hji
          have : j < listed.size := by omega
          simp [Array.getD, this]
        · rw [if_neg hji]
          exact getD_set_ne false (Ne.symm hji)
      obtain ⟨G, m, ⟨hm1, hm2⟩, inv, hN', hrep, htr, hdf⟩ := hI
      let mixL := (List.range N).map (mixed ops.toList os1.length st.sl sF listed)
      have hmixL : ∀ t, t < N → mixL.getD t .dead = mixed ops.toList os1.length st.sl sF listed t := fun t ht => by simp [mixL, List.getD, ht]
      have hmixS : Slots (avoid F G) w (obAt vs obF m).length G mixL a.tmps := by
       exact ⟨by simp [mixL, hN'], fun t ht => by
        have ht' : t < N := by simpa [mixL] using ht
        rw [hmixL t ht']; exact hrep t ht'⟩
      unfold wpOpL
      rw [ho]
      simp only
      have hcl' : ∀ j o, ops[j]? = some o → (listed.setIfInBounds i true).getD j false = true → ∀ e ∈ o.after.toList, Region.binds .any e = true → (listed.setIfInBounds i true).getD e.on false = true := by
        intro j oj hoj hlj e he hb
        rw [hset] at hlj ⊢
        split
        · rfl
        · split at hlj
          · rename_i hji
            subst hji
            rw [ho] at hoj; cases hoj
            exact haft e (by simpa using he) hb
          · exact hcl j oj hoj hlj e he hb
      by_cases him : i < os1.length
      · -- a still one
        have hos := hget' i o hol' him
        obtain ⟨s2, s3, s4⟩ := hstat i o hos
        obtain ⟨f1, f2, f3⟩ := hfacts i o hos
        have hcongr : ∀ t, t ∈ gTmps ops.toList o → mixL.getD t .dead = sF.getD t .dead := by
          intro t ht
          by_cases htN : t < N
          · rw [hmixL t htN]
            unfold mixed
            split
            · rfl
            · rename_i hno
              refine (hkeep t fun j p hj hp hd => ?_).symm
              have hb := (s3 t ht).2 j p (hget' j p hp hj) hd
              rw [Nat.zero_add] at hb
              unfold bindsTo at hb
              obtain ⟨e, he, heb⟩ := List.any_eq_true.1 hb
              simp only [Bool.and_eq_true, beq_iff_eq] at heb
              exact hno ⟨j, p, hj, hp, hd, by
                have := haft e (by simpa using he) heb.2
                rwa [heb.1] at this⟩
          · have h1 : mixL.getD t .dead = .dead := by simp [mixL, List.getD, htN]
            have h2 : sF.getD t .dead = .dead := by simp [List.getD, List.getElem?_eq_none (show sF.length ≤ t by omega)]
            rw [h1, h2]
        -- writes ahead of one that looks at the objects are done; those behind it are not, or only lay a new object
        have hge : (hs.getD i .std).blind o.op = false → ∀ j p, os1[j]? = some p → (hs.getD j .std).wr p = true → j < i → j < m ∨ (opMono o.op = true ∧ ∀ q, monoPtr sF o.op = some q → (obAt vs obF (j + 1)).getD q .dead = (obAt vs obF j).getD q .dead) := by
          intro hbl j p hj hw hlt
          have hjl : j < os1.length := (List.getElem?_eq_some_iff.1 hj).1
          obtain ⟨q1, q2⟩ := hpairs j i p o (hget j p hj) hol' hjl him hw (by omega) hbl
          rcases q2 hlt with q2 | q2
          · left
            rw [← hm2 j p hj hw]
            exact near_listed hcl 5 i j (fun o2 ho2 e he hb => by rw [ho] at ho2; cases ho2; exact haft e (by simpa using he) hb) q2
          · exact .inr q2
        have hle : (hs.getD i .std).blind o.op = false → ∀ j p, os1[j]? = some p → (hs.getD j .std).wr p = true → i < j → j < m → (opAdds p.op = true ∧ opMono o.op = true) ∨ (opMono o.op = true ∧ ∀ q, monoPtr sF o.op = some q → (obAt vs obF (j + 1)).getD q .dead = (obAt vs obF j).getD q .dead) := by
          intro hbl j p hj hw hij hjm
          have hjl : j < os1.length := (List.getElem?_eq_some_iff.1 hj).1
          obtain ⟨q1, q2⟩ := hpairs j i p o (hget j p hj) hol' hjl him hw (by omega) hbl
          rcases q1 hij with q1 | q1
          · exfalso
            have := near_listed hcl 5 j i (fun o2 ho2 => hcl j o2 ho2 ((hm2 j p hj hw).2 hjm)) q1
            rw [hli'] at this; cases this
          · exact q1
        have hord : (hs.getD i .std).blind o.op = false → (hs.getD i .std).wr o = true → ∀ j p, os1[j]? = some p → (hs.getD j .std).wr p = true → j ≠ i → (j < m ↔ j < i) := by
          intro hbl hwi j p hj hw hne
          constructor
          · intro hjm
            rcases Nat.lt_or_ge j i with h | h
            · exact h
            · rcases hle hbl j p hj hw (by omega) hjm with q | q
              · have := q.2
                rw [wr_mono hwi] at this; cases this
              · have := q.1
                rw [wr_mono hwi] at this; cases this
          · intro hji
            rcases hge hbl j p hj hw hji with q | q
            · exact q
            · have := q.1
              rw [wr_mono hwi] at this; cases this
        have heq : (hs.getD i .std).blind o.op = false → (hs.getD i .std).wr o = true → obAt vs obF m = obAt vs obF i := by
          intro hbl hwi
          have hmi : m ≤ i := by
            rcases Nat.lt_or_ge i m with h | h
            · have := (hm2 i o hos hwi).2 h
              rw [hli'] at this; cases this
            · exact h
          refine hseg m i hmi (by omega) fun j p h1 h2 hj hw => ?_
          have := (hord hbl hwi j p hj hw (by omega)).2 h2
          omega
        have hstl : (hs.getD i .std).blind o.op = false → (hs.getD i .std).wr o ≠ true → opG TT ops.toList (hs.getD i .std) o sF (obAt vs obF m) = some ((vs.getD i (.dead, [])).1, obAt vs obF m) := by
          intro hbl hwi
          have hsti := (hstill i o hos).resolve_right hwi
          have h0 : opG TT ops.toList (hs.getD i .std) o sF (obAt vs obF i) = some ((vs.getD i (.dead, [])).1, obAt vs obF i) := by
            have h1 := f1
            rw [f3 hsti, ← hl] at h1
            exact h1
          rcases Nat.le_total m i with h | h
          · by_cases hex : ∃ j p, m ≤ j ∧ j < i ∧ os1[j]? = some p ∧ (hs.getD j .std).wr p = true
            · obtain ⟨j0, p0, a1, a2, a3, a4⟩ := hex
              have hmo : opMono o.op = true := by
                rcases hge hbl j0 p0 a3 a4 a2 with q | q
                · omega
                · exact q.1
              refine opG_at hmo (fun q hq => ?_) h0
              have step : ∀ d, m + d ≤ i → (obAt vs obF (m + d)).getD q .dead = (obAt vs obF m).getD q .dead := by
                intro d
                induction d with
                | zero => intro _; rfl
                | succ d ihd =>
                  intro hd
                  rw [← ihd (by omega)]
                  have hk1 : os1[m + d]? = some os1[m + d] := List.getElem?_eq_getElem (by omega)
                  by_cases hw : (hs.getD (m + d) .std).wr os1[m + d] = true
                  · rcases hge hbl (m + d) _ hk1 hw (by omega) with q3 | q3
                    · omega
                    · exact q3.2 q hq
                  · rw [show m + (d + 1) = m + d + 1 by omega, ← hseg (m + d) (m + d + 1) (by omega) (by omega) fun j p h3 h4 hj hw2 => by
                      have : j = m + d := by omega
                      subst this
                      rw [hk1] at hj; cases hj
                      exact hw hw2]
              have := step (i - m) (by omega)
              rw [show m + (i - m) = i by omega] at this
              exact this.symm
            · rw [hseg m i h (by omega) fun j p h1 h2 hj hw => hex ⟨j, p, h1, h2, hj, hw⟩]
              exact h0
          · have step : ∀ d, i + d ≤ m → opG TT ops.toList (hs.getD i .std) o sF (obAt vs obF (i + d)) = some ((vs.getD i (.dead, [])).1, obAt vs obF (i + d)) := by
              intro d
              induction d with
              | zero => intro _; exact h0
              | succ d ihd =>
                intro hd
                have h2 := ihd (by omega)
                have hk1 : os1[i + d]? = some os1[i + d] := List.getElem?_eq_getElem (by omega)
                by_cases hw : (hs.getD (i + d) .std).wr os1[i + d] = true
                · have hne : i < i + d := by
                    rcases Nat.eq_zero_or_pos d with h3 | h3
                    · exfalso
                      subst h3
                      have h4 : os1[i + 0]? = some o := hos
                      rw [hk1] at h4
                      simp only [Option.some.injEq] at h4
                      rw [h4] at hw
                      exact hwi hw
                    · omega
                  rcases hle hbl (i + d) _ hk1 hw hne (by omega) with ⟨a1, a2⟩ | ⟨a1, a2⟩
                  · obtain ⟨x, hx⟩ := opG_adds a1 hw (hfacts (i + d) _ hk1).1
                    rw [show i + (d + 1) = i + d + 1 by omega, hx]
                    exact opG_mono a2 x h2
                  · rw [show i + (d + 1) = i + d + 1 by omega]
                    exact opG_at a1 a2 h2
                · rw [show i + (d + 1) = i + d + 1 by omega, ← hseg (i + d) (i + d + 1) (by omega) (by omega) fun j p h3 h4 hj hw2 => by
                    have : j = i + d := by omega
                    subst this
                    rw [hk1] at hj; cases hj
                    exact hw hw2]
                  exact h2
            have := step (m - i) (by omega)
            rw [show i + (m - i) = m by omega] at this
            exact this
        obtain ⟨m', hm', hop⟩ : ∃ m', At (listed.setIfInBounds i true) m' ∧ opG TT ops.toList (hs.getD i .std) o mixL (obAt vs obF m) = some ((vs.getD i (.dead, [])).1, obAt vs obF m') := by
          have hsame : (hs.getD i .std).wr o ≠ true → At (listed.setIfInBounds i true) m := fun hw => ⟨hm1, fun j p hj hpw => by
            rw [hset, ← hm2 j p hj hpw]
            split
            · rename_i hji
              subst hji
              rw [hos] at hj; cases hj
              exact absurd hpw hw
            · exact Iff.rfl⟩
          rw [opG_congr (hstill i o hos) hcongr]
          by_cases hwi : (hs.getD i .std).wr o = true
          · have hnb : (hs.getD i .std).blind o.op = false := by
              simp only [OA.wr, Bool.and_eq_true] at hwi
              have h2 := hwi.2
              cases hb : (hs.getD i .std).blind o.op with
              | false => rfl
              | true =>
                simp only [OA.blind, Bool.and_eq_true] at hb
                have h3 := hb.2
                generalize o.op = q at h2 h3
                cases q <;> try (first | (cases h2; done) | (cases h3; done))
                rename_i c
                obtain ⟨callee, args, argTypes⟩ := c
                cases callee <;> try (first | (cases h2; done) | (cases h3; done))
                rename_i b
                cases b <;> first | (cases h2; done) | (cases h3; done)
            refine ⟨i + 1, ⟨by omega, fun j p hj hpw => ?_⟩, ?_⟩
            · rw [hset]
              split
              · rename_i hji
                exact ⟨fun _ => by omega, fun _ => rfl⟩
              · rename_i hji
                rw [hm2 j p hj hpw, hord hnb hwi j p hj hpw hji]
                omega
            · rw [heq hnb hwi, hl]; exact f1
          · have hsti := (hstill i o hos).resolve_right hwi
            refine ⟨m, hsame hwi, ?_⟩
            cases hb : (hs.getD i .std).blind o.op with
            | false => exact hstl hb hwi
            | true =>
              have h1 := f1
              rw [f3 hsti, ← hl] at h1
              exact opG_blind hb h1
        have cont : ∀ (x : Value) (w' : World) (G' : Gs), Rep (avoid F G') w' (obAt vs obF m').length G' (vs.getD i (.dead, [])).1 x → Inv F w' G' (obAt vs obF m') → Trans (obAt vs obF m).length w G w' G' → (obAt vs obF m).length ≤ (obAt vs obF m').length →
            wpAnyL P ops Q fuel (listed.setIfInBounds i true) (a.put o.dst x) w' := ?cont
        have plain : opK TT (hs.getD i .std) o.op mixL (obAt vs obF m) pairK = some ((vs.getD i (.dead, [])).1, obAt vs obF m') → (∀ c, o.op ≠ .defer c) ∧ o.wp P a w (wpAnyL P ops Q fuel (listed.setIfInBounds i true)) Q := by
          intro hop
          refine ⟨opK_nodefer hop, opK_sound tt (hs_getD hok i) inv hmixS hop _ _ ?_⟩
          rintro x w' ⟨v, ob', G', h1, h2, h3, h4, h5⟩
          simp only [pairK, Option.some.injEq, Prod.mk.injEq] at h1
          obtain ⟨rfl, rfl⟩ := h1
          exact cont x w' G' h2 h3 h4 h5
        · unfold opG at hop
          cases hg : o.guard with
          | none =>
            rw [hg] at hop
            simp only [Region.wanted, hg, if_true]
            exact plain hop
          | some gw =>
            obtain ⟨g, want⟩ := gw
            rw [hg] at hop
            simp only at hop
            cases hd : ((ops.toList)[g]?).bind (·.dst) with
            | none => rw [hd] at hop; cases hop
            | some d =>
              rw [hd] at hop
              simp only at hop
              have hdst : ((ops[g]?).bind (·.dst)) = some d := by simpa using hd
              have hy : yielded ops a.tmps g = match a.tmps[d]? with | some (.bool b) => some b | _ => none := by
                unfold yielded
                rw [hdst]
                rfl
              have hrep := hmixS.eval (a := a) d
              cases hv : mixL.getD d .dead <;> rw [hv] at hop <;> first | cases hop; done | skip
              · rename_i b
                rw [hv] at hrep
                have htd : a.tmps[d]? = some (.bool b) := by
                  by_cases hlt : d < a.tmps.size
                  · generalize hv : a.tmps.getD d undef = v at hrep
                    cases hrep
                    simp [Array.getD, hlt] at hv
                    simp [hlt, hv]
                  · exfalso
                    have : mixL.getD d .dead = .dead := by simp [mixL, List.getD, show ¬ d < N from fun h => hlt (by rw [hN']; exact h)]
                    rw [this] at hv; cases hv
                have hyb : yielded ops a.tmps g = some b := by rw [hy, htd]
                simp only at hop
                split at hop
                · rename_i hbw
                  rw [if_pos (by simp [Region.wanted, hg, hyb, hbw])]
                  exact plain hop
                · rename_i hbw
                  rw [if_neg (by simp [Region.wanted, hg, hyb, hbw])]
                  simp only [Option.some.injEq, Prod.mk.injEq] at hop
                  exact cont undef w G (by rw [← hop.1]; exact .undef) (by rw [← hop.2]; exact inv) (Trans.refl _ _ _) (by rw [← hop.2]; exact Nat.le_refl _)
              · rw [hv] at hrep
                have hyn : yielded ops a.tmps g ≠ some want := by
                  rw [hy]
                  generalize hv : a.tmps.getD d undef = v at hrep
                  cases hrep
                  by_cases hlt : d < a.tmps.size
                  · simp [Array.getD, hlt] at hv
                    simp [hlt, hv, Go.undef]
                  · simp [Array.getElem?_eq_none (Nat.le_of_not_lt hlt)]
                rw [if_neg (by simp [Region.wanted, hg, hyn])]
                simp only [Option.some.injEq, Prod.mk.injEq] at hop
                exact cont undef w G (by rw [← hop.1]; exact .undef) (by rw [← hop.2]; exact inv) (Trans.refl _ _ _) (by rw [← hop.2]; exact Nat.le_refl _)
        intro x w' G' h2 h3 h4 hle
        have hst' := h4.stays (F := F) hle
        refine ih _ _ _ (by simp [hls]) hcl' (fun h => by
          rw [hset, if_neg (by omega)]; exact hml h) ?_ ⟨G', m', hm', h3, ?_, fun t ht => ?_, htr.step h4 hle, by rw [put_defers]; exact ⟨hdf.1, hdf.2.step h4⟩⟩
        · have hle : ((List.range ops.size).filter fun j => !(listed.setIfInBounds i true).getD j false).length < ((List.range ops.size).filter fun j => !listed.getD j false).length := by
            have e1 : ((List.range ops.size).filter fun j => !(listed.setIfInBounds i true).getD j false) = ((List.range ops.size).filter fun j => !listed.getD j false).filter fun j => j != i := by
              rw [List.filter_filter]
              refine List.filter_congr fun j _ => ?_
              rw [hset]
              by_cases hji : j = i
              · simp [hji]
              · simp [hji]
            rw [e1]
            refine List.length_filter_lt_length_iff_exists.2 ⟨i, ?_, by simp⟩
            rw [List.mem_filter]
            exact ⟨List.mem_range.2 hilt, by simp [hli']⟩
          omega
        · cases o.dst <;> simp [Act.put, hN']
        · have hold := (hrep t ht).stays hst'
          by_cases hdt : o.dst = some t
          · have e1 : mixed ops.toList os1.length st.sl sF (listed.setIfInBounds i true) t = sF.getD t .dead := by
              unfold mixed
              rw [if_pos ⟨i, o, him, hol', hdt, by rw [hset, if_pos rfl]⟩]
            have e2 : (a.put o.dst x).tmps.getD t undef = x := by
              have : t < a.tmps.size := by omega
              rw [hdt]; simp [Act.put, Array.getD, this]
            rw [e1, e2, f2 t hdt (by rw [hN]; exact ht)]
            exact h2
          · have e1 : mixed ops.toList os1.length st.sl sF (listed.setIfInBounds i true) t = mixed ops.toList os1.length st.sl sF listed t := by
              unfold mixed
              by_cases hex : ∃ j p, j < os1.length ∧ ops.toList[j]? = some p ∧ p.dst = some t ∧ listed.getD j false = true
              · rw [if_pos hex]
                obtain ⟨j, p, q1, q2, q3, q4⟩ := hex
                rw [if_pos ⟨j, p, q1, q2, q3, by rw [hset]; split <;> first | rfl | exact q4⟩]
              · rw [if_neg hex, if_neg]
                rintro ⟨j, p, q1, q2, q3, q4⟩
                rw [hset] at q4
                split at q4
                · rename_i hji
                  subst hji
                  rw [hol'] at q2; cases q2
                  exact hdt q3
                · exact hex ⟨j, p, q1, q2, q3, q4⟩
            have e2 : (a.put o.dst x).tmps.getD t undef = a.tmps.getD t undef := by
              cases hd : o.dst with
              | none => rfl
              | some d =>
                have hne : d ≠ t := fun e => hdt (by rw [hd, e])
                have : t < a.tmps.size := by omega
                simp [Act.put, Array.getD, this, hne]
            rw [e1, e2]; exact hold
      · -- the last one
        rcases hos2 with h0 | ⟨ol, h0, s1, hbt⟩
        · exfalso
          subst h0
          have h1 := congrArg List.length hl
          simp only [List.append_nil] at h1
          omega
        · subst h0
          have h1 := congrArg List.length hl
          simp only [List.length_append, List.length_cons, List.length_nil] at h1
          have hio : i = os1.length := by omega
          subst hio
          have hoo : o = ol := by
            rw [hl, List.getElem?_append_right (Nat.le_refl _)] at hol'
            simpa using hol'.symm
          subst hoo
          have hlisted : ∀ j, j < os1.length → listed.getD j false = true := fun j hj =>
            near_listed hcl _ _ _ (fun o2 ho2 e he hb => by rw [ho] at ho2; cases ho2; exact haft e (by simpa using he) hb) (hbt j hj)
          have hob : obAt vs obF m = obF := by
            rw [hseg m os1.length hm1 (Nat.le_refl _) fun j o h1 h2 hj hw => ?_, run_end hrun]
            have := (hm2 j o hj hw).1 (hlisted j h2)
            omega
          rw [hob] at inv hmixS htr
          have hmF : mixL = sF := by
            apply List.ext_getElem
            · simp [mixL, hFl]
            · intro t q1 q2
              have ht : t < N := by rw [← hFl]; exact q2
              have := hmixL t ht
              rw [hmixF listed hlisted] at this
              simpa [List.getD, q1, q2] using this
          rw [hmF] at hmixS
          simp only [Region.wanted, s1, if_true]
          have hh : (hs.drop os1.length).headD .std = hs.getD os1.length .std := by
            simp [List.getD, List.headD_eq_head?_getD, List.head?_drop]
          have hpl : (hs.getD os1.length .std).plain = true := by
            by_cases hlt : os1.length < hs.length
            · have := List.all_eq_true.1 hplain _ (List.getElem_mem hlt)
              simpa [List.getD, hlt] using this
            · simp [List.getD, List.getElem?_eq_none (Nat.le_of_not_lt hlt), OA.plain]
          simp only [opsK, s1, hh, (plain_bare hpl).1, (plain_bare hpl).2, St.frzAll] at e2
          refine ⟨opK_nodefer e2, opK_sound tt (hs_getD hok _) inv hmixS e2 _ _ ?_⟩
          rintro x w' ⟨v, ob', G', g1, g2, g3, g4, g5⟩
          have hst' := g4.stays (F := F) g5
          obtain ⟨p1, p2, p3⟩ := (hmixS.stays hst').putO g2 o.dst ob'
          have hallL : ∀ j, j < ops.size → (listed.setIfInBounds os1.length true).getD j false = true := fun j hj => by
            rw [hset]
            split
            · rfl
            · exact hlisted j (by omega)
          exact wpAnyL_done (P := P) (hall _ hallL) (hk _ _ _ (by rw [put_defers]; exact hdf.1) ⟨G', by rw [p3]; exact g3, by rw [p3]; exact p1, by rw [p3]; exact htr.step g4 g5, by rw [put_defers]; exact hdf.2.step g4, by rw [p2]; exact hFl⟩ g1) fuel
  refine key ops.size _ _ _ (by simp) (fun j o _ hj => ?_) (fun h => by simp [Array.getD, h]) ?_ ⟨G, ?_⟩
  · exfalso
    by_cases h : j < ops.size <;> simp [Array.getD, h] at hj
  · exact Nat.le_trans (List.length_filter_le _ _) (by simp)
  · obtain ⟨hg1, hg2⟩ := inv.grow (w' := { w with drawn := w.drawn + 1 }) rfl rfl rfl (Nat.le_refl _) (fun _ _ => rfl)
    refine ⟨0, ⟨Nat.zero_le _, fun j o hj _ => ⟨fun h => ?_, fun h => by omega⟩⟩, by rw [run_start hrun]; exact hg1, by rw [← hsl.1]; exact hN, fun i hi => ?_, by rw [run_start hrun]; exact htr.step hg2 (Nat.le_refl _), hdd, hdf.step hg2⟩
    · exfalso
      by_cases h2 : j < ops.size <;> simp [Array.getD, h2] at h
    have e1 : mixed ops.toList os1.length st.sl sF (Array.replicate ops.size false) i = st.sl.getD i .dead := by
      unfold mixed
      rw [if_neg]
      rintro ⟨j, o, h1, h2, h3, h4⟩
      by_cases h : j < ops.size <;> simp [Array.getD, h] at h4
    rw [e1, run_start hrun]
    exact (hsl.2 i (by rw [hN]; exact hi)).stays (hg2.stays (F := F) (Nat.le_refl _))

theorem draw_sound (tt : TTok P TT) (hm : P.follows .mixedOrders = true) {id : Nat} {rd : Option Nat} {ops : Array Oper} {Q : Exit → Act → World → Prop} {np : Nat} {w0 : World} {G0 : Gs} {N : Nat} {k : St → Option ρ} {d0 : List Deferred} {hs : List OA}
    (hok : ∀ h ∈ hs, OAok P h) (hnat : ∀ h ∈ hs, h.nat) (hd : drwOk ops.toList hs = true) {st : St} {a : Act} {w : World} (hdd : a.defers = d0) (hS : S F np w0 G0 N st a w) (e : opsK TT ops.toList ops.toList hs st k = some r)
    (hk : ∀ st a w, a.defers = d0 → S F np w0 G0 N st a w → k st = some r → Q .normal a w) : (Code.region id ops true).wpIn (Fr rd) 0 P Q a w := by
  simp only [drwOk, Bool.and_eq_true, Bool.or_eq_true] at hd
  obtain ⟨⟨hplain, hback⟩, hlast⟩ := hd
  obtain ⟨os1, os2, hl, hdw, hstill, hpa, hos2⟩ := draw_split (pairs := drwPairs) hlast
  have e' := e
  rw [hl] at e'
  obtain ⟨vs, sF, obF, hrun, e2⟩ := opsK_run os1 os2 hs st hnat hstill e'
  refine wpIn_region_any hm (wpAnyL_in _ _ _ _ ?_)
  refine draw_core tt hok hdd hS hl hplain hback hdw hstill hrun (fun w j o p h1 h2 h3 h4 h5 h6 h7 => ?_) hos2 e2 hk
  have := drwPairs_spec hpa h1 h2 h3 h4 h5 h6 h7
  exact ⟨fun h => (this.1 h).imp (fun h => h) .inl, fun h => .inl (this.2 h)⟩

theorem draw_soundT (tt : TTok P TT) (hm : P.follows .mixedOrders = true) {id : Nat} {rd : Option Nat} {ops : Array Oper} {Q : Exit → Act → World → Prop} {np : Nat} {w0 : World} {G0 : Gs} {N : Nat} {k : St → Option ρ} {d0 : List Deferred} {hs : List OA}
    (hok : ∀ h ∈ hs, OAok P h) (hnat : ∀ h ∈ hs, h.nat) (hd : drwOkT ops.toList hs = true) {st : St} {a : Act} {w : World} (hdd : a.defers = d0) (hS : S F np w0 G0 N st a w) (e : opsT TT ops.toList ops.toList hs 0 [] [] st k = some r)
    (hk : ∀ st a w, a.defers = d0 → S F np w0 G0 N st a w → k st = some r → Q .normal a w) : (Code.region id ops true).wpIn (Fr rd) 0 P Q a w := by
  simp only [drwOkT, Bool.and_eq_true, Bool.or_eq_true] at hd
  obtain ⟨⟨hplain, hback⟩, hlast⟩ := hd
  obtain ⟨os1, os2, hl, hdw, hstill, hpa, hos2⟩ := draw_split (pairs := drwPairsT) hlast
  have e' := e
  rw [hl] at e'
  obtain ⟨vs, sF, obF, ts', ps', hrun, e2, hfact⟩ := opsT_run os1 os2 hs 0 [] [] st hnat hstill e'
  obtain ⟨_, _, hf2, hf3⟩ := hfact [] (by rw [← hl]; exact hdw)
  have hfacts := run_facts hrun 0 [] (by rw [← hl]; exact hdw) hstill
  obtain ⟨k2, e3, hk2⟩ : ∃ k2 : St → Option ρ, opsK TT (os1 ++ os2) os2 (hs.drop os1.length) ⟨sF, obF⟩ k2 = some r ∧ ∀ st', k2 st' = some r → k st' = some r := by
    rcases hos2 with h0 | ⟨o, h0, _⟩
    · subst h0; exact ⟨k, e2, fun _ h => h⟩
    · subst h0
      rw [opsT] at e2
      split at e2
      · cases e2
      · refine ⟨_, e2, fun st' h => ?_⟩
        split at h
        · exact h
        · split at h
          · cases h
          · exact h
  have hget : ∀ i o, ops.toList[i]? = some o → i < os1.length → os1[i]? = some o := fun i o hi hlt => by
    rw [hl, List.getElem?_append_left hlt] at hi; exact hi
  refine wpIn_region_any hm (wpAnyL_in _ _ _ _ ?_)
  refine draw_core tt hok hdd hS hl hplain hback hdw hstill hrun (fun w j o p h1 h2 h3 h4 h5 h6 h7 => ?_) hos2 e3 (fun st a w hdd hS h => hk st a w hdd hS (hk2 st h))
  have := drwPairsT_spec hpa h1 h2 h3 h4 h5 h6 h7
  have hsm : ∀ (T : List Nat) (q : Nat), (∀ q, q < (obAt vs obF w).length → q ∉ T → (obAt vs obF (w + 1)).getD q .dead = (obAt vs obF w).getD q .dead) → sameObj (0 + w, obAt vs obF w, obAt vs obF (w + 1), T) q = true → (obAt vs obF (w + 1)).getD q .dead = (obAt vs obF w).getD q .dead := by
    intro T q t2 hs
    unfold sameObj at hs
    simp only [Bool.or_eq_true, Bool.and_eq_true, decide_eq_true_eq, Bool.not_eq_true'] at hs
    rcases hs with ⟨h10, h11⟩ | h10
    · refine t2 q h10 fun hmem => ?_
      rw [List.contains_iff_mem.2 hmem] at h11
      cases h11
    · exact (aoSame_eq h10).symm
  refine ⟨fun h => ?_, fun h => ?_⟩
  · rcases this.1 h with h8 | h8 | ⟨h8, h9⟩
    · exact .inl h8
    · exact .inr (.inl h8)
    · rcases opG_frame h8 (hfacts w o (hget w o h1 h3)).1 with t0 | ⟨T, t1, t2⟩
      · exact .inr (.inr ⟨h9, fun q _ => by rw [t0]⟩)
      by_cases hnear : near ops.toList 5 w j = true
      · exact .inl hnear
      · refine .inr (.inr ⟨h9, fun q hq => ?_⟩)
        have hps := hf3 w j o p T q h (hget w o h1 h3) (hget j p h2 h4) t1 hq
        unfold psOk at hps
        simp only [Bool.or_eq_true] at hps
        rcases hps with h10 | h10
        · exfalso
          simp only [Nat.zero_add] at h10
          rw [← hl] at h10
          exact hnear h10
        · exact hsm T q t2 h10
  · rcases this.2 h with h8 | ⟨h8, h9⟩
    · exact .inl h8
    · rcases opG_frame h8 (hfacts w o (hget w o h1 h3)).1 with t0 | ⟨T, t1, t2⟩
      · exact .inr ⟨h9, fun q _ => by rw [t0]⟩
      have hts := hf2 w j o p T h (hget w o h1 h3) (hget j p h2 h4) t1
      by_cases hnear : near ops.toList 5 j w = true
      · exact .inl hnear
      · refine .inr ⟨h9, fun q hq => ?_⟩
        unfold tsOk1 at hts
        rw [hq] at hts
        simp only [Bool.or_eq_true] at hts
        rcases hts with h10 | h10
        · exfalso
          simp only [Nat.zero_add] at h10
          rw [← hl] at h10
          exact hnear h10
        · exact hsm T q t2 h10

/-- In a round's frame nothing is deferred. -/
def SR (rd : Option Nat) (F : Nat → Prop) (np : Nat) (w0 : World) (G0 : Gs) (N : Nat) (st : St) (a : Act) (w : World) : Prop :=
  S F np w0 G0 N st a w ∧ (rd.isSome = true → a.defers = [])

/-! ### Typed cuts -/

/-- A spec of N slots, whose first objects are those that came in. -/
def Spec.ok (np N : Nat) (s : Spec) : Bool := decide (s.n = N) && decide (s.np = np) && decide (np ≤ s.objs.length) && s.slots.all fun i => decide (i < N)

theorem spec_soundG {s : Spec} (hs : s.ok np N = true) {st : St} {a : Act} {w : World} {G : Gs} (h : Inv F w G st.ob ∧ Slots (avoid F G) w st.ob.length G st.sl a.tmps ∧ Tr np w0 G0 w G st.ob.length ∧ Marks w G w0.heap.size a.defers ∧ st.sl.length = N) {d : s.D} (e : s.dec st = some d) :
    ∃ G', (∀ b, G'.has b → G.has b) ∧ Inv F w G' (s.enc d).ob ∧ Slots (avoid F G') w (s.enc d).ob.length G' (s.enc d).sl a.tmps ∧ Tr np w0 G0 w G' (s.enc d).ob.length ∧ Marks w G' w0.heap.size a.defers ∧ (s.enc d).sl.length = N := by
  obtain ⟨inv, hsl, htr, hdf, hN⟩ := h
  simp only [Spec.ok, Bool.and_eq_true, decide_eq_true_eq, List.all_eq_true] at hs
  obtain ⟨⟨⟨h1, h2⟩, h3⟩, h4⟩ := hs
  unfold Spec.dec at e
  simp only [Option.map_eq_some_iff] at e
  obtain ⟨⟨d', fin⟩, e1, rfl⟩ := e
  have hr : RepL (avoid F G) w st.ob.length G (s.slots.map fun i => st.sl.getD i .dead) (s.slots.map fun i => a.tmps.getD i undef) :=
    repL_of (by simp) fun i hi => by
      have hi' : i < s.slots.length := by simpa using hi
      have e1 : (s.slots.map fun i => st.sl.getD i .dead).getD i .dead = st.sl.getD s.slots[i] .dead := by simp [List.getD, hi']
      have e2 : (s.slots.map fun i => a.tmps.getD i undef).getD i undef = a.tmps.getD s.slots[i] undef := by simp [List.getD, hi']
      rw [e1, e2]; exact hsl.eval (a := a) _
  obtain ⟨le, in2, hap, hfrom, hF⟩ := read_sound inv e1 (start_inv G s.np s.objs _ (by have := htr.le; omega)) hr
  obtain ⟨g1, g2⟩ := hF F (fun b hb => ⟨.inl hb, fun j g _ hg hgb => (inv.free j g b hg hgb).1 hb⟩) (fun b hb hh => by
    obtain ⟨j, g, _, hg, hgb⟩ := hfrom b hh
    exact (inv.free j g b hg hgb).1 hb) inv.old
  have hlen := encOs_length s.objs id s.objs (s.objs_ d')
  refine ⟨Gn fin.src s.objs G, (fun b hb => let ⟨j, g, _, hg, hgb⟩ := hfrom b hb; ⟨j, g, hg, hgb⟩), g1, ?_, ⟨⟨htr.t.os, htr.t.tape, htr.t.output, htr.t.size, htr.t.frame, fun b hb => ?_, fun i hi => ?_⟩, ?_⟩, hdf.sub (fun b hb => let ⟨j, g, _, hg, hgb⟩ := hfrom b hb; ⟨j, g, hg, hgb⟩), ?_⟩
  · show Slots _ w (encOs s.objs id s.objs (s.objs_ d')).length _ (setSlots s.slots _ _) a.tmps
    rw [hlen]
    have hl : (List.replicate s.n AV.dead).length = a.tmps.size := by rw [List.length_replicate, h1, ← hN]; exact hsl.1
    refine ⟨by rw [setSlots_length]; exact hl, fun i hi => ?_⟩
    rw [setSlots_length] at hi
    refine setSlots_rep s.slots _ _ a.tmps hl (fun q hq => ?_) g2 i hi
    have hq' : q < s.n := by simpa using hq
    have e3 : (List.replicate s.n AV.dead).getD q .dead = .dead := by simp [List.getD, hq']
    rw [e3]; exact .dead _
  · obtain ⟨j, g, _, hg, hgb⟩ := hfrom b hb
    exact htr.t.own b ⟨j, g, hg, hgb⟩
  · rcases start_keep (G := G) le (i := i) (by omega) (by omega) with h | h
    · exact .inl h
    · rw [h]; exact htr.t.keep i hi
  · show np ≤ (encOs s.objs id s.objs (s.objs_ d')).length
    rw [hlen]; exact h3
  · show (setSlots s.slots _ (List.replicate s.n AV.dead)).length = N
    rw [setSlots_length, List.length_replicate, h1]

theorem spec_sound {s : Spec} (hs : s.ok np N = true) {st : St} {a : Act} {w : World} (h : S F np w0 G0 N st a w) {d : s.D} (e : s.dec st = some d) : S F np w0 G0 N (s.enc d) a w := by
  obtain ⟨G, h⟩ := h
  obtain ⟨G', _, h2⟩ := spec_soundG hs h e
  exact ⟨G', h2⟩

theorem inject_sound {np : Nat} {w0 : World} {G0 : Gs} {N : Nat} : ∀ (alts : List (EK × Spec)) {ek : EK} {st : St} {a : Act} {w : World} {d : AltD alts}, alts.all (fun x => x.2.ok np N) = true → S F np w0 G0 N st a w → inject alts ek st = some d →
    ∃ st2, S F np w0 G0 N st2 a w ∧ ∀ {τ : Type} (k : EK → St → Option τ), dispatch alts d k = k ek st2
  | [], ek, st, a, w, d, _, _, h => by cases h
  | [x], ek, st, a, w, d, ho, hS, h => by
    simp only [inject] at h
    split at h
    · rename_i hek
      simp only [List.all_cons, List.all_nil, Bool.and_true] at ho
      exact ⟨x.2.enc d, spec_sound ho hS h, fun k => by rw [← hek]; rfl⟩
    · cases h
  | x :: y :: r, ek, st, a, w, d, ho, hS, h => by
    have ho2 : x.2.ok np N = true ∧ (y :: r).all (fun x => x.2.ok np N) = true := by
      rw [List.all_cons, Bool.and_eq_true] at ho; exact ho
    simp only [inject] at h
    split at h
    · rename_i d' hd
      split at hd
      · rename_i hek
        simp only [Option.some.injEq] at h
        subst h
        exact ⟨x.2.enc d', spec_sound ho2.1 hS hd, fun k => by rw [← hek]; rfl⟩
      · cases hd
    · simp only [Option.bind_eq_some_iff, Option.some.injEq] at h
      obtain ⟨d', h1, rfl⟩ := h
      obtain ⟨st2, h2, h3⟩ := inject_sound (y :: r) ho2.2 hS h1
      exact ⟨st2, h2, fun k => h3 k⟩

theorem know_sound {A : Nat → Prop} {w : World} {n : Nat} {G : Gs} {st : St} {a : Act} (h : Slots A w n G st.sl a.tmps) {c : Operand} {b : Bool} (hv : a.eval c = .bool b) :
    Slots A w n G (st.know c b).sl a.tmps ∧ (st.know c b).ob = st.ob ∧ (st.know c b).sl.length = st.sl.length := by
  cases c with
  | tmp i =>
    refine ⟨⟨by simp [St.know, h.1], fun j hj => ?_⟩, rfl, by simp [St.know]⟩
    have hj' : j < st.sl.length := by simpa [St.know] using hj
    by_cases e : i = j
    · subst e
      have e1 : (st.know (.tmp i) b).sl.getD i .dead = .bool b := by simp [St.know, List.getD, hj']
      rw [e1]
      have : a.tmps.getD i undef = .bool b := hv
      rw [this]; exact .bool b
    · have e1 : (st.know (.tmp i) b).sl.getD j .dead = st.sl.getD j .dead := by simp [St.know, List.getD, e]
      rw [e1]; exact h.2 j hj'
  | _ => exact ⟨h, rfl, rfl⟩

/-- No range over a function. -/
def Ann.flat : Ann → Bool
  | .seq a b => a.flat && b.flat
  | .join _ a b => a.flat && b.flat
  | .cond a b => a.flat && b.flat
  | .block a => a.flat
  | .loop _ _ a => a.flat
  | .unroll a b => a.flat && b.flat
  | .chunk _ _ _ _ _ _ _ => false
  | _ => true

def chunkR0 (tS tI tY tB : Nat) : List Oper := [{ dst := some 4, op := Op.assign (Operand.const (Value.int IntKind.i64 0)), type := tI, pos := "iter.go:103", after := #[], guard := none }]

def chunkR1 (tS tI tY tB : Nat) : List Oper := [{ dst := some 6, op := Op.move (Operand.tmp 4), type := tI, pos := "iter.go:103", after := #[], guard := none }, { dst := some 7, op := Op.load tS (Operand.tmp 1), type := tS, pos := "iter.go:103", after := #[], guard := none }, { dst := some 8, op := Op.call { callee := Callee.builtin Builtin.len, args := #[Operand.tmp 7], argTypes := #[tS] }, type := tI, pos := "iter.go:103", after := #[{ on := 1, ground := Ground.data }], guard := none }, { dst := some 9, op := Op.binOp BinOp.lss tI (Operand.tmp 6) (Operand.tmp 8) tI, type := tB, pos := "iter.go:103", after := #[{ on := 0, ground := Ground.data }, { on := 2, ground := Ground.data }], guard := none }]

def chunkR2 (tS tI tY tB : Nat) : List Oper := [{ dst := some 10, op := Op.move (Operand.tmp 4), type := tI, pos := "iter.go:103", after := #[], guard := none }, { dst := some 11, op := Op.load tI (Operand.tmp 2), type := tI, pos := "iter.go:103", after := #[], guard := none }, { dst := some 12, op := Op.binOp BinOp.add tI (Operand.tmp 10) (Operand.tmp 11) tI, type := tI, pos := "iter.go:103", after := #[{ on := 0, ground := Ground.data }, { on := 1, ground := Ground.data }], guard := none }, { dst := some 4, op := Op.assign (Operand.tmp 12), type := tI, pos := "iter.go:103", after := #[{ on := 2, ground := Ground.data }, { on := 0, ground := Ground.phase }, { on := 1, ground := Ground.phase }, { on := 2, ground := Ground.phase }], guard := none }]

def chunkR3 (tS tI tY tB : Nat) : List Oper := [{ dst := some 13, op := Op.load tI (Operand.tmp 2), type := tI, pos := "iter.go:105", after := #[], guard := none }, { dst := some 14, op := Op.load tS (Operand.tmp 1), type := tS, pos := "iter.go:105", after := #[], guard := none }, { dst := some 15, op := Op.move (Operand.tmp 4), type := tI, pos := "iter.go:105", after := #[], guard := none }, { dst := some 16, op := Op.slice tS (Operand.tmp 14) (some (Operand.tmp 15)) none none, type := tS, pos := "iter.go:105", after := #[{ on := 1, ground := Ground.data }, { on := 2, ground := Ground.data }], guard := none }, { dst := some 17, op := Op.call { callee := Callee.builtin Builtin.len, args := #[Operand.tmp 16], argTypes := #[tS] }, type := tI, pos := "iter.go:105", after := #[{ on := 3, ground := Ground.data }], guard := none }, { dst := some 18, op := Op.call { callee := Callee.builtin Builtin.min, args := #[Operand.tmp 13, Operand.tmp 17], argTypes := #[tI, tI] }, type := tI, pos := "iter.go:105", after := #[{ on := 0, ground := Ground.data }, { on := 4, ground := Ground.data }], guard := none }, { dst := some 5, op := Op.assign (Operand.tmp 18), type := tI, pos := "iter.go:105", after := #[{ on := 5, ground := Ground.data }, { on := 0, ground := Ground.phase }, { on := 1, ground := Ground.phase }, { on := 2, ground := Ground.phase }, { on := 3, ground := Ground.phase }, { on := 4, ground := Ground.phase }, { on := 5, ground := Ground.phase }], guard := none }]

def chunkR4 (tS tI tY tB : Nat) : List Oper := [{ dst := some 19, op := Op.move (Operand.tmp 0), type := tY, pos := "iter.go:109", after := #[], guard := none }, { dst := some 20, op := Op.load tS (Operand.tmp 1), type := tS, pos := "iter.go:109", after := #[], guard := none }, { dst := some 21, op := Op.move (Operand.tmp 4), type := tI, pos := "iter.go:109", after := #[], guard := none }, { dst := some 22, op := Op.move (Operand.tmp 4), type := tI, pos := "iter.go:109", after := #[], guard := none }, { dst := some 23, op := Op.move (Operand.tmp 5), type := tI, pos := "iter.go:109", after := #[], guard := none }, { dst := some 24, op := Op.binOp BinOp.add tI (Operand.tmp 22) (Operand.tmp 23) tI, type := tI, pos := "iter.go:109", after := #[{ on := 3, ground := Ground.data }, { on := 4, ground := Ground.data }], guard := none }, { dst := some 25, op := Op.move (Operand.tmp 4), type := tI, pos := "iter.go:109", after := #[], guard := none }, { dst := some 26, op := Op.move (Operand.tmp 5), type := tI, pos := "iter.go:109", after := #[], guard := none }, { dst := some 27, op := Op.binOp BinOp.add tI (Operand.tmp 25) (Operand.tmp 26) tI, type := tI, pos := "iter.go:109", after := #[{ on := 6, ground := Ground.data }, { on := 7, ground := Ground.data }], guard := none }, { dst := some 28, op := Op.slice tS (Operand.tmp 20) (some (Operand.tmp 21)) (some (Operand.tmp 24)) (some (Operand.tmp 27)), type := tS, pos := "iter.go:109", after := #[{ on := 1, ground := Ground.data }, { on := 2, ground := Ground.data }, { on := 5, ground := Ground.data }, { on := 8, ground := Ground.data }], guard := none }, { dst := some 29, op := Op.call { callee := Callee.value (Operand.tmp 19), args := #[Operand.tmp 28], argTypes := #[tS] }, type := tB, pos := "iter.go:109", after := #[{ on := 0, ground := Ground.data }, { on := 9, ground := Ground.data }], guard := none }, { dst := some 30, op := Op.unOp UnOp.not tB (Operand.tmp 29), type := tB, pos := "iter.go:109", after := #[{ on := 10, ground := Ground.data }], guard := none }]

/-- The body of slices.Chunk's function. -/
def chunkBody (tS tI tY tB : Nat) : Code :=
  ((Code.region 0 (chunkR0 tS tI tY tB).toArray false).seq (Code.block 0 (((Code.region 1 (chunkR1 tS tI tY tB).toArray false).seq (Code.cond (Operand.tmp 9) Code.skip (Code.exit 0))).seq ((Code.block 1 ((Code.region 3 (chunkR3 tS tI tY tB).toArray true).seq ((Code.region 4 (chunkR4 tS tI tY tB).toArray false).seq (Code.cond (Operand.tmp 30) Code.ret Code.skip)))).seq (Code.region 2 (chunkR2 tS tI tY tB).toArray false))).loop))

def Ann.ok (P : Program) (np N : Nat) : Ann → Prop
  | .std => True
  | .reg hs => ∀ h ∈ hs, OAok P h
  | .drw hs => ∀ h ∈ hs, OAok P h ∧ h.nat
  | .seq a b => a.ok P np N ∧ b.ok P np N
  | .join alts a b => alts.all (fun x => x.2.ok np N) = true ∧ a.ok P np N ∧ b.ok P np N
  | .cond a b => a.ok P np N ∧ b.ok P np N
  | .block a => a.ok P np N
  | .loop h alts a => h.ok np N = true ∧ alts.all (fun x => x.2.ok np N) = true ∧ a.ok P np N
  | .unroll a b => a.ok P np N ∧ b.ok P np N
  | .chunk fid tS tI _ h a b => h.ok np N = true ∧ (∃ fn tY tB, P.funcs[fid]? = some fn ∧ fn.body = some (chunkBody tS tI tY tB) ∧ fn.ntmps = 31 ∧ fn.results = #[] ∧ fn.name ≠ "runtime.NumGoroutine") ∧
      (a.flat = true ∧ b.flat = true) ∧ a.ok P h.objs.length N ∧ b.ok P h.objs.length N

def Ann.len : Ann → Nat
  | .unroll _ b => b.len + 1
  | _ => 0


end

end Go.Proofs.YtiodpeekbeahlaaGreatDoor.Abs
