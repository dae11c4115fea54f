/- Code: regions, blocks, branches, loops, joins. -/
import Derived.Test.YtldmeogadmgkiaaAbsDraw
namespace Go.Proofs.Ytldmeogadmgkiaa.Abs
open Go

section
variable {F : Nat → Prop} {P : Program} {TT : Nat → TI} {ρ : Type} {r : ρ}

/-! ### The state and the world -/

/-- What holds between the abstract state and the model's frame and world, in a call that began in w0 with the objects G0. -/
def S (F : Nat → Prop) (w0 : World) (G0 : Gs) (N : Nat) (st : St) (a : Act) (w : World) : Prop :=
  ∃ G, Inv F w G st.ob ∧ Slots (avoid F G) w st.ob.length G st.sl a.tmps ∧ Trans 0 w0 G0 w G ∧ a.defers = [] ∧ st.sl.length = N

theorem put_defers (a : Act) (d : Option Tmp) (v : Value) : (a.put d v).defers = a.defers := by cases d <;> rfl

theorem Slots.putO {A : Nat → Prop} {w : World} {n : Nat} {G : Gs} {sl : List AV} {a : Act} (h : Slots A w n G sl a.tmps) {x : AV} {v : Value} (hx : Rep A w n G x v) (d : Option Nat) (ob : List AO) :
    Slots A w n G (({ sl := sl, ob := ob } : St).put d x).sl (a.put d v).tmps ∧ (({ sl := sl, ob := ob } : St).put d x).sl.length = sl.length ∧ (({ sl := sl, ob := ob } : St).put d x).ob = ob := by
  cases d with
  | none => exact ⟨h, rfl, rfl⟩
  | some d => exact ⟨h.put hx d, by simp [St.put], rfl⟩

/-! ### Regions -/

theorem opsK_sound (tt : TTok P TT) {ops : Array Oper} {Q : Exit → Act → World → Prop} {w0 : World} {G0 : Gs} {N : Nat} {k : St → Option ρ}
    (hk : ∀ st a w, S F w0 G0 N st a w → k st = some r → Q .normal a w) :
    ∀ (os : List Oper) (hs : List OA) (st : St) (a : Act) (w : World), (∀ h ∈ hs, OAok P h) → S F w0 G0 N st a w → opsK TT ops.toList os hs st k = some r → wpList P ops Q os a w
  | [], _, st, a, w, _, hS, e => hk st a w hS (by simpa [opsK] using e)
  | o :: os, hs, st, a, w, hok, hS, e => by
    have hh : OAok P (hs.headD .std) := by
      cases hs with
      | nil => exact trivial
      | cons h hs => exact hok h (by simp)
    have ht : ∀ h ∈ hs.tail, OAok P h := fun h hm => hok h (List.mem_of_mem_tail hm)
    have run : ∀ (sl : List AV), (∃ G, Inv F w G st.ob ∧ Slots (avoid F G) w st.ob.length G sl a.tmps ∧ Trans 0 w0 G0 w G ∧ a.defers = [] ∧ sl.length = N) →
        (opK TT (hs.headD .std) o.op sl st.ob fun v ob => opsK TT ops.toList os hs.tail (({ sl := sl, ob := ob } : St).put o.dst v) k) = some r →
        o.wp P a w (wpList P ops Q os) Q := by
      rintro sl ⟨G, inv, hsl, htr, hdf, hN⟩ e
      refine opK_sound tt hh inv hsl e _ _ ?_
      rintro x w' ⟨v, ob', G', h1, h2, h3, h4, h5⟩
      have hst := h4.stays (F := F) h5
      obtain ⟨p1, p2, p3⟩ := (hsl.stays hst).putO h2 o.dst ob'
      exact opsK_sound tt hk os hs.tail _ _ _ ht ⟨G', by rw [p3]; exact h3, by rw [p3]; exact p1, htr.trans h4 (Nat.zero_le _), by rw [put_defers]; exact hdf, by rw [p2]; exact hN⟩ h1
    simp only [opsK] at e
    unfold wpList
    cases hg : o.guard with
    | none =>
      rw [hg] at e
      simp only at e
      rw [if_pos (by simp [Region.wanted, hg])]
      obtain ⟨G, inv, hsl, htr, hdf, hN⟩ := hS
      exact .inl (run st.sl ⟨G, inv, hsl, htr, hdf, hN⟩ e)
    | some gw =>
      obtain ⟨g, want⟩ := gw
      rw [hg] at e
      simp only at e
      obtain ⟨G, inv, hsl, htr, hdf, hN⟩ := hS
      split at e
      · cases e
      · rename_i d hd
        have hdst : ((ops[g]?).bind (·.dst)) = some d := by
          simpa using hd
        have hy : yielded ops a.tmps g = match a.tmps[d]? with | some (.bool b) => some b | _ => none := by
          unfold yielded
          rw [hdst]
          rfl
        have hrep := hsl.eval (a := a) d
        split at e
        · rename_i b hb
          rw [hb] at hrep
          have htd : a.tmps[d]? = some (.bool b) := by
            by_cases hlt : d < a.tmps.size
            · generalize hv : a.tmps.getD d undef = v at hrep
              cases hrep
              simp [Array.getD, hlt] at hv
              simp [hlt, hv]
            · exfalso
              have hlen := hsl.1
              have hle : st.sl.length ≤ d := by rw [hlen]; exact Nat.le_of_not_lt hlt
              have : st.sl.getD d .dead = .dead := by simp [List.getD, List.getElem?_eq_none hle]
              rw [this] at hb; cases hb
          have hyb : yielded ops a.tmps g = some b := by rw [hy, htd]
          have hset : ∀ b', b' = b → Slots (avoid F G) w st.ob.length G (st.sl.set d (.bool b')) a.tmps := by
            intro b' hb'
            subst hb'
            refine ⟨by simp [hsl.1], fun i hi => ?_⟩
            have hi' : i < st.sl.length := by simpa using hi
            by_cases e2 : d = i
            · subst e2
              have e3 : (st.sl.set d (.bool b')).getD d .dead = .bool b' := by simp [List.getD, hi']
              rw [e3]; exact hrep
            · have e3 : (st.sl.set d (.bool b')).getD i .dead = st.sl.getD i .dead := by simp [List.getD, e2]
              rw [e3]; exact hsl.2 i hi'
          split at e
          · rename_i hbw
            rw [if_pos (by simp [Region.wanted, hg, hyb, hbw])]
            exact .inl (run _ ⟨G, inv, hset want hbw.symm, htr, hdf, by simp [hN]⟩ e)
          · rename_i hbw
            rw [if_neg (by simp [Region.wanted, hg, hyb, hbw])]
            have hb2 : (!want) = b := by cases want <;> cases b <;> simp_all
            obtain ⟨p1, p2, p3⟩ := (hset (!want) hb2).putO (.undef) o.dst st.ob
            exact opsK_sound tt hk os hs.tail _ _ _ ht ⟨G, by rw [p3]; exact inv, by rw [p3]; exact p1, htr, by rw [put_defers]; exact hdf, by rw [p2]; simpa using hN⟩ e
        · rename_i hb
          rw [hb] at hrep
          have hyn : yielded ops a.tmps g ≠ some want := by
            rw [hy]
            generalize hv : a.tmps.getD d undef = v at hrep
            cases hrep
            by_cases hlt : d < a.tmps.size
            · simp [Array.getD, hlt] at hv
              simp [hlt, hv, Go.undef]
            · simp [Array.getElem?_eq_none (Nat.le_of_not_lt hlt)]
          rw [if_neg (by simp [Region.wanted, hg, hyn])]
          obtain ⟨p1, p2, p3⟩ := hsl.putO (.undef) o.dst st.ob
          exact opsK_sound tt hk os hs.tail _ _ _ ht ⟨G, by rw [p3]; exact inv, by rw [p3]; exact p1, htr, by rw [put_defers]; exact hdf, by rw [p2]; exact hN⟩ e
        · cases e

/-! ### Regions that draw their order -/

theorem hs_getD {hs : List OA} (h : ∀ x ∈ hs, OAok P x) (i : Nat) : OAok P (hs.getD i .std) := by
  by_cases hi : i < hs.length
  · have : hs.getD i .std = hs[i] := by simp [List.getD, hi]
    rw [this]; exact h _ (List.getElem_mem hi)
  · have : hs.getD i .std = .std := by simp [List.getD, List.getElem?_eq_none (Nat.le_of_not_lt hi)]
    rw [this]; trivial

open Classical in
/-- The slots while some of the operations are done. -/
noncomputable def mixed (l : List Oper) (m : Nat) (s0 sF : List AV) (listed : Array Bool) (t : Nat) : AV :=
  if ∃ j o, j < m ∧ l[j]? = some o ∧ o.dst = some t ∧ listed.getD j false = true then sF.getD t .dead else s0.getD t .dead

theorem draw_sound (tt : TTok P TT) (hm : P.follows .mixedOrders = true) {id : Nat} {ops : Array Oper} {Q : Exit → Act → World → Prop} {w0 : World} {G0 : Gs} {N : Nat} {k : St → Option ρ} {hs : List OA}
    (hok : ∀ h ∈ hs, OAok P h) (hnat : ∀ h ∈ hs, h.nat) (hd : drwOk ops.toList hs = true) {st : St} {a : Act} {w : World} (hS : S F w0 G0 N st a w) (e : opsK TT ops.toList ops.toList hs st k = some r)
    (hk : ∀ st a w, S F w0 G0 N st a w → k st = some r → Q .normal a w) : (Code.region id ops true).wp P Q a w := by
  simp only [drwOk, Bool.and_eq_true, Bool.or_eq_true] at hd
  obtain ⟨⟨hback, hst⟩, hlast⟩ := hd
  obtain ⟨os1, os2, hl, hdw, hstill, hos2⟩ : ∃ os1 os2, ops.toList = os1 ++ os2 ∧ drwOps ops.toList os1 0 [] = true ∧ (∀ i o, os1[i]? = some o → (hs.getD i .std).still o.op = true) ∧
      (os2 = [] ∨ ∃ o, os2 = [o] ∧ o.guard = none ∧ ∀ i, i < os1.length → i ∈ boundTo ops.toList ops.toList.length os1.length) := by
    rcases hlast with ⟨hdw, hla⟩ | ⟨hdw, hlg, hla⟩
    · refine ⟨ops.toList, [], by simp, hdw, fun i o hi => ?_, .inl rfl⟩
      have hlt : i < ops.toList.length := (List.getElem?_eq_some_iff.1 hi).1
      by_cases h1 : i + 1 < ops.toList.length
      · exact drwStill_spec _ _ hst i o hi h1
      · exact lastStill_spec _ _ hla i o hi (by omega)
    · by_cases hne : ops.toList = []
      · exact ⟨[], [], by simp [hne], rfl, fun i o hi => by simp at hi, .inl rfl⟩
      · refine ⟨ops.toList.dropLast, [ops.toList.getLast hne], (List.dropLast_concat_getLast hne).symm, hdw, fun i o hi => ?_, .inr ⟨_, rfl, lastPlain_spec ops.toList.dropLast _ (by rw [List.dropLast_concat_getLast hne]; exact hlg), fun i hi => ?_⟩⟩
        · have hlt : i < ops.toList.dropLast.length := (List.getElem?_eq_some_iff.1 hi).1
          have hlt2 : i + 1 < ops.toList.length := by rw [List.length_dropLast] at hlt; omega
          have hi2 : ops.toList[i]? = some o := by
            rw [List.getElem?_dropLast] at hi
            split at hi
            · exact hi
            · cases hi
          exact drwStill_spec _ _ hst i o hi2 hlt2
        · rw [List.length_dropLast] at hi ⊢
          have := List.all_eq_true.1 hla i (List.mem_range.2 hi)
          simpa using this
  rw [hl] at e
  obtain ⟨vs, sF, hrun, e2⟩ := opsK_run os1 os2 hs st hnat hstill e
  obtain ⟨G, inv, hsl, htr, hdf, hN⟩ := hS
  have hfacts := run_facts hrun 0 [] (by rw [← hl]; exact hdw) hstill
  have hstat := drwOps_static _ 0 [] hdw
  have hbk := drwBack_spec _ 0 hback
  have hFl : sF.length = N := (run_len hrun).trans hN
  have hget : ∀ i o, os1[i]? = some o → ops.toList[i]? = some o := fun i o hi => by
    rw [hl, List.getElem?_append_left (List.getElem?_eq_some_iff.1 hi).1]; exact hi
  have hget' : ∀ i o, ops.toList[i]? = some o → i < os1.length → os1[i]? = some o := fun i o hi hlt => by
    rw [hl, List.getElem?_append_left hlt] at hi; exact hi
  have hkeep : ∀ t, (∀ j o, j < os1.length → ops.toList[j]? = some o → o.dst ≠ some t) → sF.getD t .dead = st.sl.getD t .dead := fun t ht =>
    run_keep hrun fun p hp => by
      obtain ⟨j, hj, rfl⟩ := List.getElem_of_mem hp
      exact ht j _ hj (hget j _ (List.getElem?_eq_getElem hj))
  refine wp_region_any hm ?_
  have hsz : ops.toList.length = ops.size := Array.length_toList
  -- all listed
  have hready : ∀ listed : Array Bool, listed.size = ops.size → Region.ready .any ops listed = [] → ∀ j, j < ops.size → listed.getD j false = true := by
    intro listed hls hr j
    induction j using Nat.strongRecOn with
    | _ j ihj =>
      intro hj
      by_cases hlj : listed.getD j false = true
      · exact hlj
      · exfalso
        have ho : ops[j]? = some ops[j] := Array.getElem?_eq_getElem hj
        have : j ∈ Region.ready .any ops listed := mem_ready.2 ⟨by
          simp only [Bool.not_eq_true] at hlj
          have hs : j < listed.size := by omega
          simp [Array.getD, hs] at hlj ⊢; exact hlj, ops[j], ho, fun e he hb => by
          have h1 := hbk j ops[j] (by simp) e (by simpa using he) hb
          have h2 : e.on < j := by omega
          exact ihj e.on h2 (by omega)⟩
        rw [hr] at this
        cases this
  have hall : ∀ listed : Array Bool, (∀ j, j < ops.size → listed.getD j false = true) → Region.ready .any ops listed = [] := by
    intro listed h
    rw [List.eq_nil_iff_forall_not_mem]
    intro j hj
    obtain ⟨h1, o, ho, _⟩ := mem_ready.1 hj
    have hlt := (Array.getElem?_eq_some_iff.1 ho).1
    have h2 := h j hlt
    by_cases hs : j < listed.size
    · simp [Array.getD, hs] at h1 h2; rw [h1] at h2; cases h2
    · simp [Array.getD, hs] at h2
  have hmixF : ∀ listed : Array Bool, (∀ j, j < os1.length → listed.getD j false = true) → ∀ t, mixed ops.toList os1.length st.sl sF listed t = sF.getD t .dead := by
    intro listed h t
    unfold mixed
    split
    · rfl
    · rename_i hno
      refine (hkeep t fun j o hj ho hd => hno ⟨j, o, hj, ho, hd, h j hj⟩).symm
  -- the induction
  have key : ∀ (fuel : Nat) (listed : Array Bool) (a : Act) (w : World), listed.size = ops.size →
      (∀ j o, ops[j]? = some o → listed.getD j false = true → ∀ e ∈ o.after.toList, Region.binds .any e = true → listed.getD e.on false = true) →
      (os1.length < ops.size → listed.getD os1.length false = false) → ((List.range ops.size).filter fun i => !listed.getD i false).length ≤ fuel →
      (∃ G, Inv F w G st.ob ∧ a.tmps.size = N ∧ (∀ i, i < N → Rep (avoid F G) w st.ob.length G (mixed ops.toList os1.length st.sl sF listed i) (a.tmps.getD i undef)) ∧ Trans 0 w0 G0 w G ∧ a.defers = []) →
      wpAny P .any ops Q fuel listed a w := by
    intro fuel
    -- the end, where nothing is left
    have hend : ∀ (listed : Array Bool) (a : Act) (w : World), listed.size = ops.size → (os1.length < ops.size → listed.getD os1.length false = false) →
        (∃ G, Inv F w G st.ob ∧ a.tmps.size = N ∧ (∀ i, i < N → Rep (avoid F G) w st.ob.length G (mixed ops.toList os1.length st.sl sF listed i) (a.tmps.getD i undef)) ∧ Trans 0 w0 G0 w G ∧ a.defers = []) →
        Region.ready .any ops listed = [] → Q .normal a w := by
      rintro listed a w hls hml ⟨G, inv, hN', hrep, htr, hdf⟩ hr
      have hal := hready listed hls hr
      have hlen : os1.length = ops.size := by
        have h1 : os1.length ≤ ops.size := by rw [← hsz, hl, List.length_append]; omega
        rcases Nat.lt_or_ge os1.length ops.size with h2 | h2
        · have h3 := hml h2
          rw [hal _ h2] at h3; cases h3
        · omega
      have hnil : os2 = [] := by
        have h1 := congrArg List.length hl
        rw [List.length_append, hsz] at h1
        exact List.length_eq_zero_iff.1 (by omega)
      subst hnil
      refine hk ⟨sF, st.ob⟩ a w ⟨G, inv, ⟨by rw [hN']; exact hFl, fun i hi => ?_⟩, htr, hdf, hFl⟩ (by simpa [opsK] using e2)
      have := hrep i (by rw [← hFl]; exact hi)
      rw [hmixF listed (fun j hj => hal j (by omega))] at this
      exact this
    induction fuel with
    | zero =>
      intro listed a w hls hcl hml hcnt hI
      have hr : Region.ready .any ops listed = [] := hall listed fun j hj => by
        have h0 : (List.range ops.size).filter (fun i => !listed.getD i false) = [] := List.length_eq_zero_iff.1 (by omega)
        rw [List.filter_eq_nil_iff] at h0
        have := h0 j (List.mem_range.2 hj)
        simpa using this
      exact ⟨hr, hend listed a w hls hml hI hr⟩
    | succ fuel ih =>
      intro listed a w hls hcl hml hcnt hI
      refine ⟨hend listed a w hls hml hI, fun i hi => ?_⟩
      obtain ⟨hli, o, ho, haft⟩ := mem_ready.1 hi
      have hilt := (Array.getElem?_eq_some_iff.1 ho).1
      have hol : ops.toList[i]? = some o := by simpa using ho
      have hli' : listed.getD i false = false := by
        have : i < listed.size := by omega
        simp [Array.getD, this] at hli ⊢; exact hli
      have hset : ∀ j, (listed.setIfInBounds i true).getD j false = if j = i then true else listed.getD j false := by
        intro j
        by_cases hji : j = i
        · subst hji
          have : j < listed.size := by omega
          simp [Array.getD, this]
        · rw [if_neg hji]
          exact getD_set_ne false (Ne.symm hji)
      obtain ⟨G, inv, hN', hrep, htr, hdf⟩ := hI
      let mixL := (List.range N).map (mixed ops.toList os1.length st.sl sF listed)
      have hmixL : ∀ t, t < N → mixL.getD t .dead = mixed ops.toList os1.length st.sl sF listed t := fun t ht => by simp [mixL, List.getD, ht]
      have hmixS : Slots (avoid F G) w st.ob.length G mixL a.tmps := ⟨by simp [mixL, hN'], fun t ht => by
        have ht' : t < N := by simpa [mixL] using ht
        rw [hmixL t ht']; exact hrep t ht'⟩
      unfold wpOp
      rw [ho]
      simp only
      have hcl' : ∀ j o, ops[j]? = some o → (listed.setIfInBounds i true).getD j false = true → ∀ e ∈ o.after.toList, Region.binds .any e = true → (listed.setIfInBounds i true).getD e.on false = true := by
        intro j oj hoj hlj e he hb
        rw [hset] at hlj ⊢
        split
        · rfl
        · split at hlj
          · rename_i hji
            subst hji
            rw [ho] at hoj; cases hoj
            exact haft e (by simpa using he) hb
          · exact hcl j oj hoj hlj e he hb
      by_cases him : i < os1.length
      · -- a still one
        have hos := hget' i o hol him
        obtain ⟨s2, s3, s4⟩ := hstat i o hos
        obtain ⟨f1, f2⟩ := hfacts i o hos
        have hcongr : ∀ t, t ∈ gTmps ops.toList o → mixL.getD t .dead = sF.getD t .dead := by
          intro t ht
          by_cases htN : t < N
          · rw [hmixL t htN]
            unfold mixed
            split
            · rfl
            · rename_i hno
              refine (hkeep t fun j p hj hp hd => ?_).symm
              have hb := (s3 t ht).2 j p (hget' j p hp hj) hd
              rw [Nat.zero_add] at hb
              unfold bindsTo at hb
              obtain ⟨e, he, heb⟩ := List.any_eq_true.1 hb
              simp only [Bool.and_eq_true, beq_iff_eq] at heb
              exact hno ⟨j, p, hj, hp, hd, by
                have := haft e (by simpa using he) heb.2
                rwa [heb.1] at this⟩
          · have h1 : mixL.getD t .dead = .dead := by simp [mixL, List.getD, htN]
            have h2 : sF.getD t .dead = .dead := by simp [List.getD, List.getElem?_eq_none (show sF.length ≤ t by omega)]
            rw [h1, h2]
        have hop : opG TT ops.toList (hs.getD i .std) o mixL st.ob = some (vs.getD i .dead, st.ob) := by
          rw [opG_congr (hstill i o hos) hcongr, hl]; exact f1
        have cont : ∀ (x : Value) (w' : World) (G' : Gs), Rep (avoid F G') w' st.ob.length G' (vs.getD i .dead) x → Inv F w' G' st.ob → Trans st.ob.length w G w' G' →
            wpAny P .any ops Q fuel (listed.setIfInBounds i true) (a.put o.dst x) w' := ?cont
        have plain : opK TT (hs.getD i .std) o.op mixL st.ob pairK = some (vs.getD i .dead, st.ob) → o.wp P a w (wpAny P .any ops Q fuel (listed.setIfInBounds i true)) Q := by
          intro hop
          refine opK_sound tt (hs_getD hok i) inv hmixS hop _ _ ?_
          rintro x w' ⟨v, ob', G', h1, h2, h3, h4, h5⟩
          simp only [pairK, Option.some.injEq, Prod.mk.injEq] at h1
          obtain ⟨rfl, rfl⟩ := h1
          exact cont x w' G' h2 h3 h4
        · unfold opG at hop
          cases hg : o.guard with
          | none =>
            rw [hg] at hop
            simp only [Region.wanted, hg, if_true]
            exact .inl (plain hop)
          | some gw =>
            obtain ⟨g, want⟩ := gw
            rw [hg] at hop
            simp only at hop
            cases hd : ((ops.toList)[g]?).bind (·.dst) with
            | none => rw [hd] at hop; cases hop
            | some d =>
              rw [hd] at hop
              simp only at hop
              have hdst : ((ops[g]?).bind (·.dst)) = some d := by simpa using hd
              have hy : yielded ops a.tmps g = match a.tmps[d]? with | some (.bool b) => some b | _ => none := by
                unfold yielded
                rw [hdst]
                rfl
              have hrep := hmixS.eval (a := a) d
              cases hv : mixL.getD d .dead <;> rw [hv] at hop <;> first | cases hop; done | skip
              · rename_i b
                rw [hv] at hrep
                have htd : a.tmps[d]? = some (.bool b) := by
                  by_cases hlt : d < a.tmps.size
                  · generalize hv : a.tmps.getD d undef = v at hrep
                    cases hrep
                    simp [Array.getD, hlt] at hv
                    simp [hlt, hv]
                  · exfalso
                    have : mixL.getD d .dead = .dead := by simp [mixL, List.getD, show ¬ d < N from fun h => hlt (by rw [hN']; exact h)]
                    rw [this] at hv; cases hv
                have hyb : yielded ops a.tmps g = some b := by rw [hy, htd]
                simp only at hop
                split at hop
                · rename_i hbw
                  rw [if_pos (by simp [Region.wanted, hg, hyb, hbw])]
                  exact .inl (plain hop)
                · rename_i hbw
                  rw [if_neg (by simp [Region.wanted, hg, hyb, hbw])]
                  simp only [Option.some.injEq, Prod.mk.injEq, and_true] at hop
                  exact cont undef w G (by rw [← hop]; exact .undef) inv (Trans.refl _ _ _)
              · rw [hv] at hrep
                have hyn : yielded ops a.tmps g ≠ some want := by
                  rw [hy]
                  generalize hv : a.tmps.getD d undef = v at hrep
                  cases hrep
                  by_cases hlt : d < a.tmps.size
                  · simp [Array.getD, hlt] at hv
                    simp [hlt, hv, Go.undef]
                  · simp [Array.getElem?_eq_none (Nat.le_of_not_lt hlt)]
                rw [if_neg (by simp [Region.wanted, hg, hyn])]
                simp only [Option.some.injEq, Prod.mk.injEq, and_true] at hop
                exact cont undef w G (by rw [← hop]; exact .undef) inv (Trans.refl _ _ _)
        intro x w' G' h2 h3 h4
        have hst' := h4.stays (F := F) (Nat.le_refl _)
        refine ih _ _ _ (by simp [hls]) hcl' (fun h => by
          rw [hset, if_neg (by omega)]; exact hml h) ?_ ⟨G', h3, ?_, fun t ht => ?_, htr.trans h4 (Nat.zero_le _), by rw [put_defers]; exact hdf⟩
        · have hle : ((List.range ops.size).filter fun j => !(listed.setIfInBounds i true).getD j false).length < ((List.range ops.size).filter fun j => !listed.getD j false).length := by
            have e1 : ((List.range ops.size).filter fun j => !(listed.setIfInBounds i true).getD j false) = ((List.range ops.size).filter fun j => !listed.getD j false).filter fun j => j != i := by
              rw [List.filter_filter]
              refine List.filter_congr fun j _ => ?_
              rw [hset]
              by_cases hji : j = i
              · simp [hji]
              · simp [hji]
            rw [e1]
            refine List.length_filter_lt_length_iff_exists.2 ⟨i, ?_, by simp⟩
            rw [List.mem_filter]
            exact ⟨List.mem_range.2 hilt, by simp [hli']⟩
          omega
        · cases o.dst <;> simp [Act.put, hN']
        · have hold := (hrep t ht).stays hst'
          by_cases hdt : o.dst = some t
          · have e1 : mixed ops.toList os1.length st.sl sF (listed.setIfInBounds i true) t = sF.getD t .dead := by
              unfold mixed
              rw [if_pos ⟨i, o, him, hol, hdt, by rw [hset, if_pos rfl]⟩]
            have e2 : (a.put o.dst x).tmps.getD t undef = x := by
              have : t < a.tmps.size := by omega
              rw [hdt]; simp [Act.put, Array.getD, this]
            rw [e1, e2, f2 t hdt (by rw [hN]; exact ht)]
            exact h2
          · have e1 : mixed ops.toList os1.length st.sl sF (listed.setIfInBounds i true) t = mixed ops.toList os1.length st.sl sF listed t := by
              unfold mixed
              by_cases hex : ∃ j p, j < os1.length ∧ ops.toList[j]? = some p ∧ p.dst = some t ∧ listed.getD j false = true
              · rw [if_pos hex]
                obtain ⟨j, p, q1, q2, q3, q4⟩ := hex
                rw [if_pos ⟨j, p, q1, q2, q3, by rw [hset]; split <;> first | rfl | exact q4⟩]
              · rw [if_neg hex, if_neg]
                rintro ⟨j, p, q1, q2, q3, q4⟩
                rw [hset] at q4
                split at q4
                · rename_i hji
                  subst hji
                  rw [hol] at q2; cases q2
                  exact hdt q3
                · exact hex ⟨j, p, q1, q2, q3, q4⟩
            have e2 : (a.put o.dst x).tmps.getD t undef = a.tmps.getD t undef := by
              cases hd : o.dst with
              | none => rfl
              | some d =>
                have hne : d ≠ t := fun e => hdt (by rw [hd, e])
                have : t < a.tmps.size := by omega
                simp [Act.put, Array.getD, this, hne]
            rw [e1, e2]; exact hold
      · -- the last one
        rcases hos2 with h0 | ⟨ol, h0, s1, hbt⟩
        · exfalso
          subst h0
          have h1 := congrArg List.length hl
          simp only [List.append_nil] at h1
          omega
        · subst h0
          have h1 := congrArg List.length hl
          simp only [List.length_append, List.length_cons, List.length_nil] at h1
          have hio : i = os1.length := by omega
          subst hio
          have hoo : o = ol := by
            rw [hl, List.getElem?_append_right (Nat.le_refl _)] at hol
            simpa using hol.symm
          subst hoo
          have hlisted : ∀ j, j < os1.length → listed.getD j false = true := fun j hj =>
            boundTo_listed hcl _ _ (fun o2 ho2 e he hb => by rw [ho] at ho2; cases ho2; exact haft e (by simpa using he) hb) j (hbt j hj)
          have hmF : mixL = sF := by
            apply List.ext_getElem
            · simp [mixL, hFl]
            · intro t q1 q2
              have ht : t < N := by rw [← hFl]; exact q2
              have := hmixL t ht
              rw [hmixF listed hlisted] at this
              simpa [List.getD, q1, q2] using this
          rw [hmF] at hmixS
          simp only [Region.wanted, s1, if_true]
          left
          have hh : (hs.drop os1.length).headD .std = hs.getD os1.length .std := by
            simp [List.getD, List.headD_eq_head?_getD, List.head?_drop]
          simp only [opsK, s1, hh] at e2
          refine opK_sound tt (hs_getD hok _) inv hmixS e2 _ _ ?_
          rintro x w' ⟨v, ob', G', g1, g2, g3, g4, g5⟩
          have hst' := g4.stays (F := F) g5
          obtain ⟨p1, p2, p3⟩ := (hmixS.stays hst').putO g2 o.dst ob'
          have hallL : ∀ j, j < ops.size → (listed.setIfInBounds os1.length true).getD j false = true := fun j hj => by
            rw [hset]
            split
            · rfl
            · exact hlisted j (by omega)
          exact wpAny_done (P := P) (hall _ hallL) (hk _ _ _ ⟨G', by rw [p3]; exact g3, by rw [p3]; exact p1, htr.trans g4 (Nat.zero_le _), by rw [put_defers]; exact hdf, by rw [p2]; exact hFl⟩ g1) fuel
  refine key ops.size _ _ _ (by simp) (fun j o _ hj => ?_) (fun h => by simp [Array.getD, h]) ?_ ⟨G, ?_⟩
  · exfalso
    by_cases h : j < ops.size <;> simp [Array.getD, h] at hj
  · exact Nat.le_trans (List.length_filter_le _ _) (by simp)
  · obtain ⟨hg1, hg2⟩ := inv.grow (w' := { w with drawn := w.drawn + 1 }) rfl rfl rfl (Nat.le_refl _) (fun _ _ => rfl)
    refine ⟨hg1, by rw [← hsl.1]; exact hN, fun i hi => ?_, htr.trans hg2 (Nat.zero_le _), hdf⟩
    have e1 : mixed ops.toList os1.length st.sl sF (Array.replicate ops.size false) i = st.sl.getD i .dead := by
      unfold mixed
      rw [if_neg]
      rintro ⟨j, o, h1, h2, h3, h4⟩
      by_cases h : j < ops.size <;> simp [Array.getD, h] at h4
    rw [e1]
    exact (hsl.2 i (by rw [hN]; exact hi)).stays (hg2.stays (F := F) (Nat.le_refl _))

/-! ### Typed cuts -/

theorem Rep.mono {A A' : Nat → Prop} {w : World} {n : Nat} {G : Gs} (hA : ∀ b, A' b → A b) {x : AV} {v : Value} (h : Rep A w n G x v) : Rep A' w n G x v :=
  h.stays (w' := w) ⟨fun b _ hb => ⟨rfl, fun h' => hb (hA b h')⟩, Nat.le_refl _, fun _ _ => .inr rfl⟩

theorem toAV_flat (T : Ty) (d : T.D) : flatArg (toAV T d) = true := by
  cases T with
  | pair a b => simp only [toAV, flatArg, List.all_append, cellsAV_flat a d.1, cellsAV_flat b d.2, Bool.and_true]
  | st a => exact cellsAV_flat a d
  | _ => rfl

theorem toAV_flat1 (T : Ty) (d : T.D) (h : T.isAgg = false) : flat (toAV T d) = true := by
  cases T <;> first | rfl | cases h

theorem ofAV_toAV {A : Nat → Prop} {w : World} {n : Nat} {G : Gs} {T : Ty} {x : AV} {d : T.D} {v : Value} (h : ofAV T x = some d) (hx : Rep A w n G x v) : Rep A w n G (toAV T d) v := by
  have h3 := ofAV_rep h hx
  unfold ofAV at h
  split at h
  case isFalse => cases h
  rename_i hag
  cases T with
  | pair a b =>
    cases x <;> simp [AV.isAgg, Ty.isAgg] at hag
    cases hx with
    | agg cs vs hl hr => exact .agg _ vs (by rw [show (cellsAV a d.1 ++ cellsAV b d.2).length = _ from cellsAV_length (.pair a b) d]; exact h3.1.symm) fun i hi => h3.2.2 i (by rw [← cellsAV_length (.pair a b) d]; exact hi)
  | st a =>
    cases x <;> simp [AV.isAgg, Ty.isAgg] at hag
    cases hx with
    | agg cs vs hl hr => exact .agg _ vs (by rw [cellsAV_length]; exact h3.1.symm) fun i hi => h3.2.2 i (by rw [cellsAV_length] at hi; exact hi)
  | unit =>
    cases x <;> simp [AV.isAgg, Ty.isAgg] at hag
    cases hx with
    | agg cs vs hl hr => exact .agg _ vs h3.1.symm fun i hi => by cases hi
  | int k =>
    have hc : v.cells = #[v] ∨ True := .inr trivial
    have := h3.2.2 0 (by simp [Ty.size])
    have hv : v.cells = #[v] := (cell_one hx (by
      cases x <;> simp [AV.isAgg, Ty.isAgg] at hag <;> first | rfl | (simp [AV.cells, ofCells] at h))).2
    rw [hv] at this
    simpa [cellsAV, toAV] using this
  | bool =>
    have := h3.2.2 0 (by simp [Ty.size])
    have hv : v.cells = #[v] := (cell_one hx (by
      cases x <;> simp [AV.isAgg, Ty.isAgg] at hag <;> first | rfl | (simp [AV.cells, ofCells] at h))).2
    rw [hv] at this
    simpa [cellsAV, toAV] using this
  | str =>
    have := h3.2.2 0 (by simp [Ty.size])
    have hv : v.cells = #[v] := (cell_one hx (by
      cases x <;> simp [AV.isAgg, Ty.isAgg] at hag <;> first | rfl | (simp [AV.cells, ofCells] at h))).2
    rw [hv] at this
    simpa [cellsAV, toAV] using this
  | sl e =>
    have := h3.2.2 0 (by simp [Ty.size])
    have hv : v.cells = #[v] := (cell_one hx (by
      cases x <;> simp [AV.isAgg, Ty.isAgg] at hag <;> first | rfl | (simp [AV.cells, ofCells] at h))).2
    rw [hv] at this
    simpa [cellsAV, toAV] using this

def flatObj : AO → Bool
  | .arr _ _ => true
  | .box cs => cs.all flat
  | _ => false

theorem ObjRep.flat {A A' : Nat → Prop} {w : World} {n n' : Nat} {G G' : Gs} (hA : ∀ b, A' b → A b) {o : AO} {g : Gh} (hf : flatObj o = true) (h : ObjRep A w n G o g) : ObjRep A' w n' G' o g := by
  cases o with
  | dead => exact h
  | arr T xs =>
    obtain ⟨h1, h2, h3, h4, h5, h6⟩ := h
    refine ⟨h1, h2, h3, h4, h5, fun b hb => ?_⟩
    obtain ⟨C, hrow, hrep⟩ := h6 b hb
    exact ⟨C, hrow, fun i j hi hj => (hrep i j hi hj).flat hA (all_getD (cellsAV_flat T _) (by rw [cellsAV_length]; exact hj))⟩
  | box cs =>
    obtain ⟨h1, h2, b, hb, C, hrow, hrep⟩ := h
    exact ⟨h1, h2, b, hb, C, hrow, fun j hj => (hrep j hj).flat hA (all_getD hf hj)⟩
  | map K V es => exact h

/-- The state under way: objects 'ob2' at the places 'G2', all of them places of G that are in 'own', apart from those in 'frz'. -/
structure Part (F : Nat → Prop) (w : World) (G : Gs) (N : Nat) (tmps : Array Value) (st2 : St) (G2 : Gs) (used own frz : List Nat) : Prop where
  len : st2.sl.length = N ∧ N = tmps.size
  slots : ∀ i, i < N → Rep (fun b => F b ∨ ∃ j g, G j = some g ∧ g.blk = some b ∧ j ∉ frz) w st2.ob.length G2 (st2.sl.getD i .dead) (tmps.getD i undef)
  dom : ∀ i, i < st2.ob.length → ∃ g, G2 i = some g ∧ flatObj (st2.ob.getD i .dead) = true ∧ ObjRep (avoid F G) w 0 (fun _ => none) (st2.ob.getD i .dead) g
  dom' : ∀ i g, G2 i = some g → i < st2.ob.length
  from_ : ∀ i g b, G2 i = some g → g.blk = some b → ∃ j, j ∈ own ∧ G j = some g
  inj : ∀ i j g h b, G2 i = some g → G2 j = some h → g.blk = some b → h.blk = some b → i = j
  own_used : ∀ j, j ∈ own → j ∈ used
  frz_used : ∀ j, j ∈ frz → j ∈ used
  apart : ∀ j, j ∈ own → j ∉ frz

theorem notIn_iff : ∀ (l : List Nat) (j : Nat), notIn j l = true → j ∉ l
  | [], j, _ => by simp
  | i :: l, j, h => by
    simp only [notIn] at h
    split at h
    · cases h
    · rename_i hne
      simp only [List.mem_cons, not_or]
      exact ⟨hne, notIn_iff l j h⟩

theorem frozen_rep {w : World} {G : Gs} {ob : List AO} (inv : Inv F w G ob) {el : Ty} {x : AV} {xs : List el.D} {v : Value} {j : Nat} (h : listOf el x ob = some xs) (hown : isOwn x = true) (hj : refOf x = some j)
    (hx : Rep (avoid F G) w ob.length G x v) {A' : Nat → Prop} {n' : Nat} {G' : Gs} (hA : ∀ b, A' b → F b ∨ ∃ j' g, G j' = some g ∧ g.blk = some b ∧ j' ≠ j) : Rep A' w n' G' (.isl el xs) v := by
  have hT : 0 < el.size := by
    cases x <;> simp only [refOf] at hj <;> try cases hj
    · cases hx
      rename_i hjl hv hg0
      simp only [listOf] at h
      split at h
      · rename_i T' ys ho
        split at h
        · rename_i hT'
          subst hT'
          obtain ⟨g, hg, hobj⟩ := inv.obj hjl (by rw [ho]; simp)
          rw [ho] at hobj
          exact hobj.2.1
        · cases h
      · cases h
    · cases hx
      rename_i hjl hv hg0
      simp only [listOf] at h
      split at h
      · rename_i T' ys ho
        split at h
        · rename_i hT'
          subst hT'
          obtain ⟨g, hg, hobj⟩ := inv.obj hjl (by rw [ho]; simp)
          rw [ho] at hobj
          exact hobj.2.1
        · cases h
      · cases h
    · cases hown
    · cases hown
  obtain ⟨base, cap, kj, rfl, hkill, hkj, hlc, hrest⟩ := own_sound inv h hown hx hT
  by_cases h0 : xs = []
  · subst h0; exact .islE _ _ _
  · have hpos := List.length_pos_iff.2 h0
    rcases hrest with h1 | ⟨i, g, off, b, C, rfl, hg, hb, rfl, hR, hC⟩
    · omega
    · have hij : i = j := by simpa using hkj j hj
      subst hij
      have hle : xs.length * el.size ≤ cap * el.size := Nat.mul_le_mul_right _ hlc
      refine .isl el xs b off cap (fun m => C (off + m)) h0 hT hlc (fun ha => ?_) (fun m hm => hR.cells _ (by omega)) (fun i' j' hi' hj' => (hC i' j' hi' hj').flat (fun c hc => ?_) (all_getD (cellsAV_flat el _) (by rw [cellsAV_length]; exact hj')))
      · rcases hA b ha with hF | ⟨j', g', hg', hb', hne⟩
        · exact (inv.free i g b hg hb).1 hF
        · exact hne (inv.inj j' i g' g b hg' hg hb' hb)
      · rcases hA c hc with hF | ⟨j', g', hg', hb', _⟩
        · exact .inl hF
        · exact .inr ⟨j', g', hg', hb'⟩

theorem boxDec_rep {A : Nat → Prop} {w : World} {n : Nat} {G : Gs} : ∀ (ts : List Ty) (cs : List AV) (d : boxD ts) (C : Nat → Value), ts.all (fun t => !t.isAgg) = true → boxDec ts cs = some d →
    (∀ j, j < cs.length → Rep A w n G (cs.getD j .dead) (C j)) →
    (boxEnc ts d).length = cs.length ∧ (boxEnc ts d).all flat = true ∧ ∀ j, j < cs.length → Rep A w n G ((boxEnc ts d).getD j .dead) (C j)
  | [], [], d, C, _, _, _ => ⟨rfl, rfl, fun j hj => by cases hj⟩
  | [], _ :: _, d, C, _, h, _ => by cases h
  | [t], [], d, C, _, h, _ => by cases h
  | [t], [x], d, C, ht, h, hr => by
    simp only [List.all_cons, List.all_nil, Bool.and_true, Bool.not_eq_true'] at ht
    have h0 := hr 0 (by simp)
    refine ⟨rfl, by simp [boxEnc, toAV_flat1 t d ht], fun j hj => ?_⟩
    have hj0 : j = 0 := by simpa using hj
    subst hj0
    exact ofAV_toAV h h0
  | [t], _ :: _ :: _, d, C, _, h, _ => by cases h
  | t :: u :: r, [], d, C, _, h, _ => by cases h
  | t :: u :: r, x :: l, d, C, ht, h, hr => by
    simp only [List.all_cons, Bool.and_eq_true, Bool.not_eq_true'] at ht
    simp only [boxDec, Option.bind_eq_some_iff] at h
    obtain ⟨a, ha, b, hb, h⟩ := h
    simp only [Option.some.injEq] at h
    subst h
    obtain ⟨h1, h2, h3⟩ := boxDec_rep (u :: r) l b (fun j => C (j + 1)) (by simp [ht.2]) hb (fun j hj => by
      have := hr (j + 1) (by simpa using hj)
      simpa using this)
    refine ⟨by simp [boxEnc, h1], by simp only [boxEnc, List.all_cons, toAV_flat1 t a ht.1, h2, Bool.and_self], fun j hj => ?_⟩
    cases j with
    | zero => exact ofAV_toAV ha (hr 0 (by simp))
    | succ j =>
      simp only [boxEnc, List.getD_cons_succ]
      exact h3 j (by simpa using hj)

theorem dec_arr {T : Ty} {o : AO} {d : List T.D} (h : PT.dec (.arr T) o = some d) : o = .arr T d := by
  cases o with
  | arr T' xs =>
    simp only [PT.dec] at h
    split at h
    · rename_i hT
      subst hT
      simp only [Option.some.injEq] at h
      have : xs = d := h
      rw [this]
    · cases h
  | dead => cases h
  | box cs => cases h
  | map K V es => cases h

theorem dec_box {ts : List Ty} {o : AO} {d : boxD ts} (h : PT.dec (.box ts) o = some d) : ∃ cs, o = .box cs ∧ ts.all (fun t => !t.isAgg) = true ∧ boxDec ts cs = some d := by
  cases o with
  | box cs =>
    simp only [PT.dec] at h
    split at h
    · rename_i ha; exact ⟨cs, rfl, ha, h⟩
    · cases h
  | dead => cases h
  | arr T xs => cases h
  | map K V es => cases h

theorem dec_map {K V : Ty} {o : AO} {d : List (K.D × V.D)} (h : PT.dec (.map K V) o = some d) : ∃ K' V' es, o = .map K' V' es := by
  cases o with
  | map K' V' es => exact ⟨K', V', es, rfl⟩
  | dead => cases h
  | arr T xs => cases h
  | box cs => cases h

/-- One variable of a cut. -/
theorem var_sound {w : World} {G : Gs} {st : St} {a : Act} (inv : Inv F w G st.ob) (hsl : Slots (avoid F G) w st.ob.length G st.sl a.tmps) {N : Nat} {st2 : St} {G2 : Gs} {used own frz : List Nat}
    (p : Part F w G N a.tmps st2 G2 used own frz) (s : Nat) (t : VT) (hs : s < N) (ht : t.isPin = false) {d : t.D} (e : t.decU (st.sl.getD s .dead) st.ob used = some d) :
    ∃ G3 own' frz', Part F w G N a.tmps { sl := st2.sl.set s (t.enc d [] st2.ob).1, ob := (t.enc d [] st2.ob).2 } G3 (t.addU (st.sl.getD s .dead) used) own' frz' := by
  have hx := hsl.eval (a := a) s
  generalize st.sl.getD s .dead = x at e hx
  obtain ⟨val, hval⟩ : ∃ v, a.tmps.getD s undef = v := ⟨_, rfl⟩
  rw [hval] at hx
  simp only [VT.decU, ht, Bool.false_eq_true, if_false] at e
  split at e
  case isFalse => cases e
  rename_i hok
  have hadd : t.addU x used = addRef x used := by simp [VT.addU, ht]
  rw [hadd]
  have hsub : ∀ j, j ∈ used → j ∈ addRef x used := by
    intro j hj
    unfold addRef
    split
    · exact List.mem_cons_of_mem _ hj
    · exact hj
  -- putting one slot, objects as they are
  have putS : ∀ (y : AV) (frz' : List Nat), (∀ j, j ∈ frz → j ∈ frz') → (∀ j, j ∈ frz' → j ∈ addRef x used) → (∀ j, j ∈ own → j ∉ frz') →
      Rep (fun b => F b ∨ ∃ j g, G j = some g ∧ g.blk = some b ∧ j ∉ frz') w st2.ob.length G2 y val →
      Part F w G N a.tmps { sl := st2.sl.set s y, ob := st2.ob } G2 (addRef x used) own frz' := by
    intro y frz' h1 h2 h3 hy
    refine ⟨⟨by simp [p.len.1], p.len.2⟩, fun i hi => ?_, p.dom, p.dom', p.from_, p.inj, fun j hj => hsub j (p.own_used j hj), h2, h3⟩
    by_cases hsi : s = i
    · subst hsi
      have e1 : (st2.sl.set s y).getD s .dead = y := by
        have := p.len.1
        have hlt : s < st2.sl.length := by omega
        simp [List.getD, hlt]
      show Rep _ _ _ _ ((st2.sl.set s y).getD s .dead) _
      rw [e1, hval]; exact hy
    · have e1 : (st2.sl.set s y).getD i .dead = st2.sl.getD i .dead := by simp [List.getD, hsi]
      show Rep _ _ _ _ ((st2.sl.set s y).getD i .dead) _
      rw [e1]
      refine (p.slots i hi).mono fun b hb => ?_
      rcases hb with h | ⟨j, g, hg, hb, hj⟩
      · exact .inl h
      · exact .inr ⟨j, g, hg, hb, fun hf => hj (h1 j hf)⟩
  -- putting a slot and a new object
  have putO : ∀ (y : AV) (o : AO) (g : Gh) (own' : List Nat), flatObj o = true → ObjRep (avoid F G) w 0 (fun _ => none) o g → (∀ j, j ∈ own → j ∈ own') → (∀ j, j ∈ own' → j ∈ addRef x used) → (∀ j, j ∈ own' → j ∉ frz) →
      (∀ b, g.blk = some b → ∃ j, j ∈ own' ∧ j ∉ own ∧ G j = some g) →
      (∀ (A : Nat → Prop) (G3 : Gs), G3 st2.ob.length = some g → Rep A w (st2.ob.length + 1) G3 y val) →
      ∃ G3, Part F w G N a.tmps { sl := st2.sl.set s y, ob := st2.ob ++ [o] } G3 (addRef x used) own' frz := by
    intro y o g own' hfo hor h1 h2 h3 h4 hy
    have hl : (st2.ob ++ [o]).length = st2.ob.length + 1 := by simp
    refine ⟨fun i => if i = st2.ob.length then some g else G2 i, ⟨⟨by simp [p.len.1], p.len.2⟩, fun i hi => ?_, fun i hi => ?_, fun i h hh => ?_, fun i h b hh hb => ?_, fun i j h h' b hi hj hb hb' => ?_, h2, fun j hj => hsub j (p.frz_used j hj), h3⟩⟩
    · show Rep _ _ (st2.ob ++ [o]).length _ ((st2.sl.set s y).getD i .dead) _
      rw [hl]
      by_cases hsi : s = i
      · subst hsi
        have e1 : (st2.sl.set s y).getD s .dead = y := by
          have := p.len.1
          have hlt : s < st2.sl.length := by omega
          simp [List.getD, hlt]
        rw [e1, hval]; exact hy _ _ (by simp)
      · have e1 : (st2.sl.set s y).getD i .dead = st2.sl.getD i .dead := by simp [List.getD, hsi]
        rw [e1]
        exact (p.slots i hi).stays ⟨fun b _ hb => ⟨rfl, hb⟩, by omega, fun j hj => by
          have : j ≠ st2.ob.length := by omega
          simp [this]⟩
    · have hi' : i < st2.ob.length + 1 := by rw [← hl]; exact hi
      by_cases hio : i = st2.ob.length
      · subst hio
        have e1 : (st2.ob ++ [o]).getD st2.ob.length .dead = o := by simp [List.getD]
        refine ⟨g, by simp, ?_, ?_⟩
        · show flatObj ((st2.ob ++ [o]).getD st2.ob.length .dead) = true
          rw [e1]; exact hfo
        · show ObjRep _ _ _ _ ((st2.ob ++ [o]).getD st2.ob.length .dead) _
          rw [e1]; exact hor
      · obtain ⟨g', q1, q2, q3⟩ := p.dom i (by omega)
        have hlt : i < st2.ob.length := by omega
        have e1 : (st2.ob ++ [o]).getD i .dead = st2.ob.getD i .dead := by simp [List.getD, List.getElem?_append, hlt]
        refine ⟨g', by simp [hio, q1], ?_, ?_⟩
        · show flatObj ((st2.ob ++ [o]).getD i .dead) = true
          rw [e1]; exact q2
        · show ObjRep _ _ _ _ ((st2.ob ++ [o]).getD i .dead) _
          rw [e1]; exact q3
    · show i < (st2.ob ++ [o]).length
      rw [hl]
      by_cases hio : i = st2.ob.length
      · omega
      · simp only [if_neg hio] at hh
        have := p.dom' i h hh
        omega
    · by_cases hio : i = st2.ob.length
      · simp only [if_pos hio, Option.some.injEq] at hh
        subst hh
        obtain ⟨j, q1, _, q3⟩ := h4 b hb
        exact ⟨j, q1, q3⟩
      · simp only [if_neg hio] at hh
        obtain ⟨j, q1, q2⟩ := p.from_ i h b hh hb
        exact ⟨j, h1 j q1, q2⟩
    · have old : ∀ i h b, i ≠ st2.ob.length → G2 i = some h → h.blk = some b → g.blk = some b → False := by
        intro i h b _ hh hb hgb
        obtain ⟨j, q1, q2⟩ := p.from_ i h b hh hb
        obtain ⟨j', r1, r2, r3⟩ := h4 b hgb
        have := inv.inj j j' h g b q2 r3 hb hgb
        subst this
        exact r2 q1
      by_cases hi1 : i = st2.ob.length
      · by_cases hj1 : j = st2.ob.length
        · omega
        · simp only [if_pos hi1, Option.some.injEq] at hi
          simp only [if_neg hj1] at hj
          subst hi
          exact (old j h' b hj1 hj hb' hb).elim
      · simp only [if_neg hi1] at hi
        by_cases hj1 : j = st2.ob.length
        · simp only [if_pos hj1, Option.some.injEq] at hj
          subst hj
          exact (old i h b hi1 hi hb hb').elim
        · simp only [if_neg hj1] at hj
          exact p.inj i j h h' b hi hj hb hb'
  cases t with
  | pin i => cases ht
  | v T =>
    simp only [VT.dec, decV] at e
    simp only [VT.enc]
    split at e
    · rename_i j
      split at e
      · rename_i el
        have hnu : j ∉ used := notIn_iff _ _ (by simpa [okRef, refOf] using hok)
        refine ⟨G2, own, j :: frz, putS _ (j :: frz) (fun i hi => List.mem_cons_of_mem _ hi) (fun i hi => ?_) (fun i hi hi2 => ?_) ?_⟩
        · simp only [addRef, refOf]
          rcases List.mem_cons.1 hi with rfl | hi
          · exact List.mem_cons_self
          · exact List.mem_cons_of_mem _ (p.frz_used i hi)
        · rcases List.mem_cons.1 hi2 with rfl | hi2
          · exact hnu (p.own_used _ hi)
          · exact p.apart i hi hi2
        · refine frozen_rep inv (x := .slw j) (j := j) e rfl rfl hx fun b hb => ?_
          rcases hb with h | ⟨j', g, hg, hb, hj'⟩
          · exact .inl h
          · exact .inr ⟨j', g, hg, hb, fun e => hj' (e ▸ List.mem_cons_self)⟩
      · cases e
    · rename_i j off len
      split at e
      · rename_i el
        have hnu : j ∉ used := notIn_iff _ _ (by simpa [okRef, refOf] using hok)
        refine ⟨G2, own, j :: frz, putS _ (j :: frz) (fun i hi => List.mem_cons_of_mem _ hi) (fun i hi => ?_) (fun i hi hi2 => ?_) ?_⟩
        · simp only [addRef, refOf]
          rcases List.mem_cons.1 hi with rfl | hi
          · exact List.mem_cons_self
          · exact List.mem_cons_of_mem _ (p.frz_used i hi)
        · rcases List.mem_cons.1 hi2 with rfl | hi2
          · exact hnu (p.own_used _ hi)
          · exact p.apart i hi hi2
        · refine frozen_rep inv (x := .sl j off len) (j := j) e rfl rfl hx fun b hb => ?_
          rcases hb with h | ⟨j', g, hg, hb, hj'⟩
          · exact .inl h
          · exact .inr ⟨j', g, hg, hb, fun e => hj' (e ▸ List.mem_cons_self)⟩
      · cases e
    · refine ⟨G2, own, frz, putS _ frz (fun j hj => hj) (fun j hj => hsub j (p.frz_used j hj)) p.apart ?_⟩
      refine (ofAV_toAV e hx).flatArg (fun b hb => ?_) (toAV_flat T d)
      rcases hb with h | ⟨j, g, hg, hb, _⟩
      · exact .inl h
      · exact .inr ⟨j, g, hg, hb⟩
  | own q =>
    simp only [VT.dec] at e
    simp only [VT.enc]
    unfold PT.decRef at e
    split at e
    · rename_i T
      split at e
      · rename_i hT
        cases hx
        simp only [Option.some.injEq] at e
        subst e
        obtain ⟨G3, h3⟩ := putO (.slw st2.ob.length) (.arr T []) ⟨none, 0, T.size, 0, 0⟩ own rfl ⟨rfl, hT, rfl, Nat.le_refl _, fun _ => rfl, fun b hb => by cases hb⟩ (fun j hj => hj) (fun j hj => hsub j (p.own_used j hj)) p.apart
          (fun b hb => by cases hb) (fun A G3 hG3 => by
            refine .slw _ _ (by omega) ⟨_, _, _, rfl⟩ fun g' hg' => ?_
            rw [hG3] at hg'; cases hg'
            exact ⟨none, 0, rfl, Nat.le_refl _, Nat.le_refl _, Nat.le_refl _, fun h => absurd rfl h⟩)
        exact ⟨G3, own, frz, h3⟩
      · cases e
    · rename_i T j
      have hnu : j ∉ used := notIn_iff _ _ (by simpa [okRef, refOf] using hok)
      have ho := dec_arr e
      cases hx
      rename_i hj hv hg0
      obtain ⟨g, hg, hobj⟩ := inv.obj hj (by rw [ho]; simp)
      rw [ho] at hobj
      obtain ⟨G3, h3⟩ := putO (.slw st2.ob.length) (.arr T d) g (j :: own) rfl (hobj.flat (fun b hb => hb) rfl) (fun i hi => List.mem_cons_of_mem _ hi) (fun i hi => by
          simp only [addRef, refOf]
          rcases List.mem_cons.1 hi with rfl | hi
          · exact List.mem_cons_self
          · exact List.mem_cons_of_mem _ (p.own_used i hi)) (fun i hi => by
          rcases List.mem_cons.1 hi with rfl | hi
          · exact fun h => hnu (p.frz_used _ h)
          · exact p.apart i hi) (fun b hb => ⟨j, List.mem_cons_self, fun h => hnu (p.own_used _ h), hg⟩) (fun A G3 hG3 => by
          refine .slw _ _ (by omega) hv fun g' hg' => ?_
          rw [hG3] at hg'; cases hg'
          exact hg0 g hg)
      exact ⟨G3, _, frz, h3⟩
    · rename_i ts j
      have hnu : j ∉ used := notIn_iff _ _ (by simpa [okRef, refOf] using hok)
      obtain ⟨cs, ho, hat, hd⟩ := dec_box e
      cases hx
      rename_i hj hv hg0
      obtain ⟨g, hg, hobj⟩ := inv.obj hj (by rw [ho]; simp)
      rw [ho] at hobj
      obtain ⟨g1, g2, b, hb, C, hrow, hrep⟩ := hobj
      obtain ⟨b1, b2, b3⟩ := boxDec_rep ts cs d (fun j => C (g.base + j)) hat hd hrep
      obtain ⟨G3, h3⟩ := putO (.ptr st2.ob.length 0 0) (.box (boxEnc ts d)) g (j :: own) b2 ⟨g1, by rw [b1]; exact g2, b, hb, C, by rw [b1]; exact hrow, fun m hm => (b3 m (by rw [← b1]; exact hm)).flat (fun c hc => hc) (all_getD b2 hm)⟩
        (fun i hi => List.mem_cons_of_mem _ hi) (fun i hi => by
          simp only [addRef, refOf]
          rcases List.mem_cons.1 hi with rfl | hi
          · exact List.mem_cons_self
          · exact List.mem_cons_of_mem _ (p.own_used i hi)) (fun i hi => by
          rcases List.mem_cons.1 hi with rfl | hi
          · exact fun h => hnu (p.frz_used _ h)
          · exact p.apart i hi) (fun b hb => ⟨j, List.mem_cons_self, fun h => hnu (p.own_used _ h), hg⟩) (fun A G3 hG3 => by
          refine .ptr _ _ _ _ (by omega) hv fun g' hg' => ?_
          rw [hG3] at hg'; cases hg'
          exact hg0 g hg)
      exact ⟨G3, _, frz, h3⟩
    · rename_i K V j
      obtain ⟨K', V', es, ho⟩ := dec_map e
      cases hx
      rename_i hj hv hg0
      obtain ⟨g, hg, hobj⟩ := inv.obj hj (by rw [ho]; simp)
      rw [ho] at hobj
      exact hobj.elim
    · cases e

theorem vars_sound {w : World} {G : Gs} {st : St} {a : Act} (inv : Inv F w G st.ob) (hsl : Slots (avoid F G) w st.ob.length G st.sl a.tmps) {N : Nat} :
    ∀ (l : List (Nat × VT)) (d : varsD l) (st2 : St) (G2 : Gs) (used own frz : List Nat), (∀ x ∈ l, x.1 < N ∧ x.2.isPin = false) → Part F w G N a.tmps st2 G2 used own frz → varsDec l st used = some d →
      ∃ G3 used' own' frz', Part F w G N a.tmps (varsEnc l d [] st2) G3 used' own' frz'
  | [], d, st2, G2, used, own, frz, _, p, _ => ⟨G2, used, own, frz, p⟩
  | [x], d, st2, G2, used, own, frz, hl, p, h => by
    have hx := hl x (by simp)
    obtain ⟨G3, own', frz', h3⟩ := var_sound inv hsl p x.1 x.2 hx.1 hx.2 h
    exact ⟨G3, _, own', frz', h3⟩
  | x :: y :: r, d, st2, G2, used, own, frz, hl, p, h => by
    have hx := hl x (by simp)
    simp only [varsDec, Option.bind_eq_some_iff] at h
    obtain ⟨d1, e1, d2, e2, h⟩ := h
    simp only [Option.some.injEq] at h
    subst h
    obtain ⟨G3, own', frz', h3⟩ := var_sound inv hsl p x.1 x.2 hx.1 hx.2 e1
    exact vars_sound inv hsl (y :: r) d2 _ G3 _ own' frz' (fun z hz => hl z (List.mem_cons_of_mem _ hz)) h3 e2

/-- A spec of N slots that pins nothing. -/
def Spec.ok (N : Nat) (s : Spec) : Bool := decide (s.n = N) && (match s.pins with | [] => true | _ => false) && s.vars.all fun x => decide (x.1 < N) && !x.2.isPin

theorem spec_sound {w0 : World} {G0 : Gs} {N : Nat} {s : Spec} (hs : s.ok N = true) {st : St} {a : Act} {w : World} (h : S F w0 G0 N st a w) {d : s.D} (e : s.dec st = some d) : S F w0 G0 N (s.enc d) a w := by
  obtain ⟨G, inv, hsl, htr, hdf, hN⟩ := h
  obtain ⟨n, pins, vars⟩ := s
  simp only [Spec.ok, Bool.and_eq_true, decide_eq_true_eq, List.all_eq_true, Bool.not_eq_true'] at hs
  obtain ⟨⟨rfl, hp⟩, hv⟩ := hs
  cases pins with
  | cons => cases hp
  | nil =>
    have hN2 : n = a.tmps.size := hN ▸ hsl.1
    have p0 : Part F w G n a.tmps ⟨List.replicate n .dead, []⟩ (fun _ => none) [] [] [] := by
      refine ⟨⟨by simp, hN2⟩, fun i hi => ?_, (fun i hi => by cases hi), (fun i g hg => by cases hg), (fun i g b hg => by cases hg), (fun i j g h b hg => by cases hg), (fun j hj => by cases hj), (fun j hj => by cases hj), (fun j hj => by cases hj)⟩
      have e1 : (List.replicate n AV.dead).getD i .dead = .dead := by simp [List.getD, hi]
      show Rep _ _ _ _ ((List.replicate n AV.dead).getD i .dead) _
      rw [e1]; exact .dead _
    obtain ⟨G3, used', own', frz', p⟩ := vars_sound inv hsl vars d _ _ _ _ _ hv p0 e
    show S F w0 G0 n (varsEnc vars d [] ⟨List.replicate n .dead, []⟩) a w
    generalize varsEnc vars d [] ⟨List.replicate n .dead, []⟩ = st3 at p
    have hhas : ∀ b, G3.has b → ∃ j g, j ∈ own' ∧ G j = some g ∧ g.blk = some b := fun b ⟨i, g, hg, hb⟩ => by
      obtain ⟨j, h1, h2⟩ := p.from_ i g b hg hb
      exact ⟨j, g, h1, h2, hb⟩
    have hA : ∀ b, avoid F G3 b → avoid F G b := fun b hb => by
      rcases hb with h | h
      · exact .inl h
      · obtain ⟨j, g, _, h2, h3⟩ := hhas b h
        exact .inr ⟨j, g, h2, h3⟩
    refine ⟨G3, ⟨p.dom', fun j hj g hg => ?_, fun j hj hn => ?_, p.inj, fun j g b hg hb => ?_, inv.old⟩, ⟨by rw [p.len.1, p.len.2], fun i hi => ?_⟩, ?_, hdf, p.len.1⟩
    · obtain ⟨g', h1, h2, h3⟩ := p.dom j hj
      rw [hg] at h1; cases h1
      exact h3.flat hA h2
    · obtain ⟨g', h1, _⟩ := p.dom j hj
      rw [hn] at h1; cases h1
    · obtain ⟨j', h1, h2⟩ := p.from_ j g b hg hb
      exact inv.free j' g b h2 hb
    · refine (p.slots i (by rw [← p.len.1]; exact hi)).mono fun b hb => ?_
      rcases hb with h | h
      · exact .inl h
      · obtain ⟨j, g, h1, h2, h3⟩ := hhas b h
        exact .inr ⟨j, g, h2, h3, p.apart j h1⟩
    · exact ⟨htr.os, htr.tape, htr.output, htr.size, htr.frame, fun b hb => by
        obtain ⟨j, g, _, h2, h3⟩ := hhas b hb
        exact htr.own b ⟨j, g, h2, h3⟩, fun j hj => by omega⟩

theorem inject_sound {w0 : World} {G0 : Gs} {N : Nat} : ∀ (alts : List (EK × Spec)) {ek : EK} {st : St} {a : Act} {w : World} {d : AltD alts}, alts.all (fun x => x.2.ok N) = true → S F w0 G0 N st a w → inject alts ek st = some d →
    ∃ st2, S F w0 G0 N st2 a w ∧ ∀ {τ : Type} (k : EK → St → Option τ), dispatch alts d k = k ek st2
  | [], ek, st, a, w, d, _, _, h => by cases h
  | [x], ek, st, a, w, d, ho, hS, h => by
    simp only [inject] at h
    split at h
    · rename_i hek
      simp only [List.all_cons, List.all_nil, Bool.and_true] at ho
      exact ⟨x.2.enc d, spec_sound ho hS h, fun k => by rw [← hek]; rfl⟩
    · cases h
  | x :: y :: r, ek, st, a, w, d, ho, hS, h => by
    have ho2 : x.2.ok N = true ∧ (y :: r).all (fun x => x.2.ok N) = true := by
      rw [List.all_cons, Bool.and_eq_true] at ho; exact ho
    simp only [inject] at h
    split at h
    · rename_i hek
      simp only [Option.bind_eq_some_iff, Option.some.injEq] at h
      obtain ⟨d', h1, rfl⟩ := h
      exact ⟨x.2.enc d', spec_sound ho2.1 hS h1, fun k => by rw [← hek]; rfl⟩
    · simp only [Option.bind_eq_some_iff, Option.some.injEq] at h
      obtain ⟨d', h1, rfl⟩ := h
      obtain ⟨st2, h2, h3⟩ := inject_sound (y :: r) ho2.2 hS h1
      exact ⟨st2, h2, fun k => h3 k⟩

theorem know_sound {A : Nat → Prop} {w : World} {n : Nat} {G : Gs} {st : St} {a : Act} (h : Slots A w n G st.sl a.tmps) {c : Operand} {b : Bool} (hv : a.eval c = .bool b) :
    Slots A w n G (st.know c b).sl a.tmps ∧ (st.know c b).ob = st.ob ∧ (st.know c b).sl.length = st.sl.length := by
  cases c with
  | tmp i =>
    refine ⟨⟨by simp [St.know, h.1], fun j hj => ?_⟩, rfl, by simp [St.know]⟩
    have hj' : j < st.sl.length := by simpa [St.know] using hj
    by_cases e : i = j
    · subst e
      have e1 : (st.know (.tmp i) b).sl.getD i .dead = .bool b := by simp [St.know, List.getD, hj']
      rw [e1]
      have : a.tmps.getD i undef = .bool b := hv
      rw [this]; exact .bool b
    · have e1 : (st.know (.tmp i) b).sl.getD j .dead = st.sl.getD j .dead := by simp [St.know, List.getD, e]
      rw [e1]; exact h.2 j hj'
  | _ => exact ⟨h, rfl, rfl⟩

def Ann.ok (P : Program) (N : Nat) : Ann → Prop
  | .std => True
  | .reg hs => ∀ h ∈ hs, OAok P h
  | .drw hs => ∀ h ∈ hs, OAok P h ∧ h.nat
  | .seq a b => a.ok P N ∧ b.ok P N
  | .join alts a b => alts.all (fun x => x.2.ok N) = true ∧ a.ok P N ∧ b.ok P N
  | .cond a b => a.ok P N ∧ b.ok P N
  | .block a => a.ok P N
  | .loop h alts a => h.ok N = true ∧ alts.all (fun x => x.2.ok N) = true ∧ a.ok P N

theorem code_sound (tt : TTok P TT) (hmix : P.follows .mixedOrders = true) {w0 : World} {G0 : Gs} {N : Nat} : ∀ (c : Code) (x : Ann) {ρ : Type} (r : ρ) (st : St) (a : Act) (w : World) (kN : St → Option ρ) (kE : Nat → St → Option ρ) (kR : St → Option ρ) (Q : Exit → Act → World → Prop),
    x.ok P N → S F w0 G0 N st a w → absCode TT c x st kN kE kR = some r → (∀ st a w, S F w0 G0 N st a w → kN st = some r → Q .normal a w) →
    (∀ id st a w, S F w0 G0 N st a w → kE id st = some r → Q (.exit id) a w) → (∀ st a w, S F w0 G0 N st a w → kR st = some r → Q .ret a w) → c.wp P Q a w
  | .skip, x, _, r, st, a, w, kN, kE, kR, Q, _, hS, e, hN, _, _ => by rw [ac_skip] at e; exact wp_skip (hN st a w hS e)
  | .ret, x, _, r, st, a, w, kN, kE, kR, Q, _, hS, e, _, _, hR => by rw [ac_ret] at e; exact wp_ret (hR st a w hS e)
  | .exit id, x, _, r, st, a, w, kN, kE, kR, Q, _, hS, e, _, hE, _ => by rw [ac_exit] at e; exact wp_exit (hE id st a w hS e)
  | .region id ops false, x, _, r, st, a, w, kN, kE, kR, Q, hok, hS, e, hN, _, _ => by
    cases x with
    | reg hs =>
      have e' : opsK TT ops.toList ops.toList hs st kN = some r := by rw [absCode] at e; exact e
      exact wp_region_list (opsK_sound tt hN ops.toList hs st a w hok hS e')
    | _ => rw [absCode] at e; cases e
  | .region id ops true, x, _, r, st, a, w, kN, kE, kR, Q, hok, hS, e, hN, _, _ => by
    cases x with
    | drw hs =>
      have e' : (if drwOk ops.toList hs = true then opsK TT ops.toList ops.toList hs st kN else none) = some r := by rw [absCode] at e; exact e
      split at e'
      · rename_i hd
        exact draw_sound tt hmix (fun h hh => (hok h hh).1) (fun h hh => (hok h hh).2) hd hS e' hN
      · cases e'
    | _ => rw [absCode] at e; cases e
  | .seq c1 c2, x, _, r, st, a, w, kN, kE, kR, Q, hok, hS, e, hN, hE, hR => by
    cases x with
    | seq x y =>
      rw [ac_seq] at e
      refine wp_seq (code_sound tt hmix c1 x r st a w _ kE kR _ hok.1 hS e (fun st' a' w' hS' e' => ?_) hE hR)
      exact code_sound tt hmix c2 y r st' a' w' kN kE kR Q hok.2 hS' e' hN hE hR
    | join alts x y =>
      rw [ac_join] at e
      simp only [Option.bind_eq_some_iff] at e
      obtain ⟨d, e1, e2⟩ := e
      refine wp_seq (code_sound tt hmix c1 x d st a w _ _ _ _ hok.2.1 hS e1 (fun st' a' w' hS' e' => ?_) (fun id st' a' w' hS' e' => ?_) (fun st' a' w' hS' e' => ?_))
      · obtain ⟨st2, h1, h2⟩ := inject_sound alts hok.1 hS' e'
        rw [h2] at e2
        exact code_sound tt hmix c2 y r st2 a' w' kN kE kR Q hok.2.2 h1 e2 hN hE hR
      · obtain ⟨st2, h1, h2⟩ := inject_sound alts hok.1 hS' e'
        rw [h2] at e2
        exact hE id st2 a' w' h1 e2
      · obtain ⟨st2, h1, h2⟩ := inject_sound alts hok.1 hS' e'
        rw [h2] at e2
        exact hR st2 a' w' h1 e2
    | _ => rw [absCode] at e; cases e
  | .cond c c1 c2, x, _, r, st, a, w, kN, kE, kR, Q, hok, hS, e, hN, hE, hR => by
    cases x with
    | cond x y =>
      rw [ac_cond] at e
      split at e
      · rename_i t ht
        obtain ⟨G, inv, hsl, h3⟩ := hS
        have hr := hsl.ev c
        rw [ht] at hr
        generalize hv : a.eval c = v at hr
        cases hr
        refine wp_cond hv ?_
        have hk := know_sound hsl hv
        cases t
        · exact code_sound tt hmix c2 y r _ a w kN kE kR Q hok.2 ⟨G, by rw [hk.2.1]; exact inv, by rw [hk.2.1]; exact hk.1, h3.1, h3.2.1, by rw [hk.2.2]; exact h3.2.2⟩ e hN hE hR
        · exact code_sound tt hmix c1 x r _ a w kN kE kR Q hok.1 ⟨G, by rw [hk.2.1]; exact inv, by rw [hk.2.1]; exact hk.1, h3.1, h3.2.1, by rw [hk.2.2]; exact h3.2.2⟩ e hN hE hR
      · cases e
    | _ => rw [absCode] at e; cases e
  | .block id c, x, _, r, st, a, w, kN, kE, kR, Q, hok, hS, e, hN, hE, hR => by
    cases x with
    | block x =>
      rw [ac_block] at e
      refine wp_block (code_sound tt hmix c x r st a w kN _ kR _ hok hS e hN (fun id' st' a' w' hS' e' => ?_) hR)
      show if id' = id then Q .normal a' w' else Q (.exit id') a' w'
      split at e'
      · rename_i h; rw [if_pos h]; exact hN st' a' w' hS' e'
      · rename_i h; rw [if_neg h]; exact hE id' st' a' w' hS' e'
    | _ => rw [absCode] at e; cases e
  | .loop c, x, _, r, st, a, w, kN, kE, kR, Q, hok, hS, e, hN, hE, hR => by
    cases x with
    | loop h alts x =>
      rw [ac_loop] at e
      simp only [Option.bind_eq_some_iff] at e
      obtain ⟨s0, e0, d, e1, e2⟩ := e
      obtain ⟨n, hn⟩ := loopO_iter e1
      have hS0 := spec_sound hok.1 hS e0
      clear e0 e1 hS
      refine wp_loop_rounds n ?_
      induction n generalizing s0 a w with
      | zero => cases hn
      | succ n ih =>
        rw [iter] at hn
        split at hn
        · cases hn
        · rename_i s' hstep
          refine code_sound tt hmix c x (Sum.inl s') _ a w _ _ _ _ hok.2.2 hS0 hstep (fun st' a' w' hS' e' => ?_) (fun id st' a' w' hS' e' => ?_) (fun st' a' w' hS' e' => ?_)
          · simp only [Option.bind_eq_some_iff, Option.some.injEq, Sum.inl.injEq] at e'
            obtain ⟨s2, h1, rfl⟩ := e'
            exact ih a' w' s2 hn (spec_sound hok.1 hS' h1)
          · simp only [Option.bind_eq_some_iff, Option.some.injEq] at e'
            obtain ⟨_, _, h⟩ := e'
            cases h
          · simp only [Option.bind_eq_some_iff, Option.some.injEq] at e'
            obtain ⟨_, _, h⟩ := e'
            cases h
        · rename_i d' hstep
          simp only [Option.some.injEq] at hn
          subst hn
          refine code_sound tt hmix c x (Sum.inr d') _ a w _ _ _ _ hok.2.2 hS0 hstep (fun st' a' w' hS' e' => ?_) (fun id st' a' w' hS' e' => ?_) (fun st' a' w' hS' e' => ?_)
          · simp only [Option.bind_eq_some_iff, Option.some.injEq] at e'
            obtain ⟨_, _, h⟩ := e'
            cases h
          · simp only [Option.bind_eq_some_iff, Option.some.injEq, Sum.inr.injEq] at e'
            obtain ⟨d2, h1, rfl⟩ := e'
            obtain ⟨st2, h2, h3⟩ := inject_sound alts hok.2.1 hS' h1
            rw [h3] at e2
            exact hE id st2 a' w' h2 e2
          · simp only [Option.bind_eq_some_iff, Option.some.injEq, Sum.inr.injEq] at e'
            obtain ⟨d2, h1, rfl⟩ := e'
            obtain ⟨st2, h2, h3⟩ := inject_sound alts hok.2.1 hS' h1
            rw [h3] at e2
            exact hR st2 a' w' h2 e2
    | _ => rw [absCode] at e; cases e
  | .rangeFunc _ _ _ _, x, _, r, st, a, w, kN, kE, kR, Q, _, _, e, _, _, _ => by rw [absCode] at e; cases e
  | .scope _, x, _, r, st, a, w, kN, kE, kR, Q, _, _, e, _, _, _ => by rw [absCode] at e; cases e
  | .label _, x, _, r, st, a, w, kN, kE, kR, Q, _, _, e, _, _, _ => by rw [absCode] at e; cases e
  | .goto _, x, _, r, st, a, w, kN, kE, kR, Q, _, _, e, _, _, _ => by rw [absCode] at e; cases e
  | .refuse _, x, _, r, st, a, w, kN, kE, kR, Q, _, _, e, _, _, _ => by rw [absCode] at e; cases e

/-! ### Functions -/

theorem oneOr (vs : List Value) : (if h : vs.toArray.size = 1 then vs.toArray[0] else Value.tuple vs.toArray) = (match vs with | [v] => v | vs => .tuple vs.toArray) := by
  match vs with
  | [] => simp
  | [v] => simp
  | v :: u :: r => simp

theorem results_run {w : World} {fn : Func} {ss : List Nat} (h : fn.results = (ss.map ResultVar.tmp).toArray) (tmps : Array Value) :
    (results fn tmps).run P w = .ok (match ss.map fun s => tmps.getD s undef with | [v] => v | vs => .tuple vs.toArray) w := by
  unfold results
  rw [h, Array.mapM_eq_mapM_toList, Sem.run_bind, Sem.run_map]
  simp only
  rw [run_mapM (P := P) (w := w) _ (fun x => match x with | .tmp t => tmps.getD t undef | .cell _ _ => undef) (ss.map ResultVar.tmp) (fun x hx => by
        obtain ⟨s, _, rfl⟩ := List.mem_map.1 hx
        rfl), List.map_map]
  simp only [Result.andThen_ok, Sem.run_pure]
  congr 1
  exact oneOr _

theorem boxDec_args {A : Nat → Prop} {w : World} {n : Nat} {G : Gs} : ∀ (ps : List Ty) (args : List AV) (d : boxD ps) (vs : List Value), boxDec ps args = some d → RepL A w n G args vs → RepL A w n G (boxEnc ps d) vs ∧ (boxEnc ps d).length = ps.length ∧ args.length = ps.length
  | [], [], d, [], _, _ => ⟨trivial, rfl, rfl⟩
  | [], [], d, _ :: _, _, h => h.elim
  | [], _ :: _, d, vs, h, _ => by cases h
  | [t], [], d, vs, h, _ => by cases h
  | [t], [x], d, [v], h, hr => ⟨⟨ofAV_toAV h hr.1, trivial⟩, rfl, rfl⟩
  | [t], [x], d, [], h, hr => hr.elim
  | [t], [x], d, _ :: _ :: _, h, hr => hr.2.elim
  | [t], _ :: _ :: _, d, vs, h, _ => by cases h
  | t :: u :: r, [], d, vs, h, _ => by cases h
  | t :: u :: r, x :: l, d, [], h, hr => hr.elim
  | t :: u :: r, x :: l, d, v :: vs, h, hr => by
    simp only [boxDec, Option.bind_eq_some_iff] at h
    obtain ⟨a, ha, b, hb, h⟩ := h
    simp only [Option.some.injEq] at h
    subst h
    obtain ⟨h1, h2, h3⟩ := boxDec_args (u :: r) l b vs hb hr.2
    exact ⟨⟨ofAV_toAV ha hr.1, h1⟩, by simp only [boxEnc, List.length_cons, h2], by simp only [List.length_cons, h3]⟩

theorem fn_sound (tt : TTok P TT) (hmix : P.follows .mixedOrders = true) {fid : Nat} {fn : Func} {c : Code} {x : Ann} {ps : List Ty} {rs : Spec} {N : Nat} (hf : P.funcs[fid]? = some fn) (hb : fn.body = some c) (hN : fn.ntmps = N)
    (hres : fn.results = ((rs.vars.map (·.1)).map ResultVar.tmp).toArray) (hrs : rs.ok N = true) (hx : x.ok P N) (hp : ps.length ≤ N) : FnSound P fid (mkFun ps rs (absFn TT N ps rs c x)) := by
  intro ρ args ob k r e Fb w G vs inv hargs
  unfold mkFun at e
  split at e
  case h_2 => cases e
  simp only [Option.bind_eq_some_iff] at e
  obtain ⟨d, hd, y, hy, e⟩ := e
  obtain ⟨ha1, ha2, ha3⟩ := boxDec_args ps args d vs.toList hd hargs
  have hvl : vs.size = ps.length := by
    have := (repL_index ha1).1
    simp only [Array.length_toList] at this
    omega
  refine calls_of_wp hf hb ?_
  have hS : S Fb w G N ⟨boxEnc ps d ++ List.replicate (N - ps.length) .undef, []⟩ { tmps := vs ++ Array.replicate (fn.ntmps - vs.size) undef, defers := [] } w := by
    refine ⟨G, inv, ⟨by simp [ha2, hvl, hN], fun i hi => ?_⟩, Trans.refl _ _ _, rfl, by simp [ha2]; omega⟩
    obtain ⟨h1, h2⟩ := repL_index ha1
    by_cases hlt : i < ps.length
    · have e1 : (boxEnc ps d ++ List.replicate (N - ps.length) AV.undef).getD i .dead = (boxEnc ps d).getD i .dead := by simp [List.getD, List.getElem?_append, ha2, hlt]
      have hlt2 : i < vs.size := by omega
      have e2 : (vs ++ Array.replicate (fn.ntmps - vs.size) undef).getD i undef = vs.toList.getD i undef := by
        have : i < vs.size + (fn.ntmps - vs.size) := by omega
        simp [Array.getD, List.getD, hlt2, this]
      show Rep _ _ _ _ ((boxEnc ps d ++ List.replicate (N - ps.length) AV.undef).getD i .dead) ((vs ++ Array.replicate (fn.ntmps - vs.size) undef).getD i undef)
      rw [e1, e2]
      exact h2 i (by omega)
    · have hiN : i < N := by simp [ha2] at hi; omega
      have e1 : (boxEnc ps d ++ List.replicate (N - ps.length) AV.undef).getD i .dead = .undef := by
        have h3 : i - ps.length < N - ps.length := by omega
        simp [List.getD, List.getElem?_append, ha2, hlt, h3]
      have e2 : (vs ++ Array.replicate (fn.ntmps - vs.size) undef).getD i undef = undef := by
        have h3 : ¬ i < vs.size := by omega
        by_cases h4 : i < vs.size + (fn.ntmps - vs.size)
        · simp [Array.getD, h4, Array.getElem_append, h3]
        · simp [Array.getD, h4]
      show Rep _ _ _ _ ((boxEnc ps d ++ List.replicate (N - ps.length) AV.undef).getD i .dead) ((vs ++ Array.replicate (fn.ntmps - vs.size) undef).getD i undef)
      rw [e1, e2]
      exact .undef
  have hend : ∀ st a w', S Fb w G N st a w' → rs.dec st = some y →
      a.defers = [] ∧ ∃ v, (results fn a.tmps).run P w' = .ok v w' ∧ ∃ res ob' G' v', Ending.returned v = .returned v' ∧ k res ob' = some r ∧ RepRes (avoid Fb G') w' ob'.length G' res v' ∧ Inv Fb w' G' ob' ∧ Trans 0 w G w' G' ∧ 0 ≤ ob'.length := by
    intro st a w' hS' hdec
    obtain ⟨G', inv', hsl, htr, hdf, hN'⟩ := spec_sound hrs hS' hdec
    refine ⟨hdf, _, results_run (P := P) hres a.tmps, resList rs y, (rs.enc y).ob, G', _, rfl, e, ?_, inv', htr, Nat.zero_le _⟩
    have hrep : RepL (avoid Fb G') w' (rs.enc y).ob.length G' (resList rs y) ((rs.vars.map (·.1)).map fun s => a.tmps.getD s undef) := by
      unfold resList
      generalize rs.vars = l
      induction l with
      | nil => trivial
      | cons x l ih => exact ⟨hsl.eval (a := a) x.1, ih⟩
    have hl2 : (resList rs y).length = rs.vars.length := by simp [resList]
    generalize hq : resList rs y = q at hrep hl2
    generalize hv : ((rs.vars.map (·.1)).map fun s => a.tmps.getD s undef) = us at hrep
    match q, us, hrep with
    | [], [], _ => exact ⟨#[], rfl, trivial⟩
    | [x], [u], h => exact h.1
    | x :: y :: l, u :: v :: us, h => exact ⟨_, rfl, h⟩
  exact code_sound tt hmix c x y _ _ w _ _ _ _ hx hS hy (fun st a w' h1 h2 => hend st a w' h1 h2) (fun id st a w' h1 h2 => by cases h2) (fun st a w' h1 h2 => hend st a w' h1 h2)
end


/-! ### An annotation is in order -/

def callsOf : List OA → List OA
  | [] => []
  | .call f F :: r => .call f F :: callsOf r
  | _ :: r => callsOf r

theorem callsOf_all {P : Program} : ∀ (hs : List OA), (∀ h ∈ callsOf hs, OAok P h ∧ h.nat) → ∀ h ∈ hs, OAok P h ∧ h.nat
  | [], _, h, hm => by cases hm
  | .call f F :: r, H, h, hm => by
    rcases List.mem_cons.1 hm with rfl | hm
    · exact H _ List.mem_cons_self
    · exact callsOf_all r (fun h hh => H h (List.mem_cons_of_mem _ hh)) h hm
  | .std :: r, H, h, hm => by
    rcases List.mem_cons.1 hm with rfl | hm
    · exact ⟨trivial, trivial⟩
    · exact callsOf_all r H h hm
  | .inl T :: r, H, h, hm => by
    rcases List.mem_cons.1 hm with rfl | hm
    · exact ⟨trivial, trivial⟩
    · exact callsOf_all r H h hm
  | .obj T :: r, H, h, hm => by
    rcases List.mem_cons.1 hm with rfl | hm
    · exact ⟨trivial, trivial⟩
    · exact callsOf_all r H h hm

def Ann.calls : Ann → List OA
  | .std => []
  | .reg hs => callsOf hs
  | .drw hs => callsOf hs
  | .seq a b => a.calls ++ b.calls
  | .join _ a b => a.calls ++ b.calls
  | .cond a b => a.calls ++ b.calls
  | .block a => a.calls
  | .loop _ _ a => a.calls

def Ann.specsOk (N : Nat) : Ann → Bool
  | .std => true
  | .reg _ => true
  | .drw _ => true
  | .seq a b => a.specsOk N && b.specsOk N
  | .join alts a b => alts.all (fun x => x.2.ok N) && (a.specsOk N && b.specsOk N)
  | .cond a b => a.specsOk N && b.specsOk N
  | .block a => a.specsOk N
  | .loop h alts a => h.ok N && (alts.all (fun x => x.2.ok N) && a.specsOk N)

theorem ann_ok {P : Program} {N : Nat} : ∀ {x : Ann}, x.specsOk N = true → (∀ h ∈ x.calls, OAok P h ∧ h.nat) → x.ok P N
  | .std, _, _ => trivial
  | .reg hs, _, h => fun q hq => (callsOf_all hs h q hq).1
  | .drw hs, _, h => callsOf_all hs h
  | .seq a b, h1, h => by
    simp only [Ann.specsOk, Bool.and_eq_true] at h1
    exact ⟨ann_ok h1.1 fun q hq => h q (List.mem_append_left _ hq), ann_ok h1.2 fun q hq => h q (List.mem_append_right _ hq)⟩
  | .join alts a b, h1, h => by
    simp only [Ann.specsOk, Bool.and_eq_true] at h1
    exact ⟨h1.1, ann_ok h1.2.1 fun q hq => h q (List.mem_append_left _ hq), ann_ok h1.2.2 fun q hq => h q (List.mem_append_right _ hq)⟩
  | .cond a b, h1, h => by
    simp only [Ann.specsOk, Bool.and_eq_true] at h1
    exact ⟨ann_ok h1.1 fun q hq => h q (List.mem_append_left _ hq), ann_ok h1.2 fun q hq => h q (List.mem_append_right _ hq)⟩
  | .block a, h1, h => ann_ok (x := a) h1 h
  | .loop hd alts a, h1, h => by
    simp only [Ann.specsOk, Bool.and_eq_true] at h1
    exact ⟨h1.1, h1.2.1, ann_ok h1.2.2 h⟩

theorem hs_nil {P : Program} : ∀ h ∈ ([] : List OA), OAok P h ∧ h.nat := fun _ h => by cases h
theorem hs_cons {P : Program} {h : OA} {l : List OA} (h1 : OAok P h) (h2 : h.nat) (t : ∀ x ∈ l, OAok P x ∧ x.nat) : ∀ x ∈ h :: l, OAok P x ∧ x.nat := fun x hx => by
  rcases List.mem_cons.1 hx with rfl | hx
  · exact ⟨h1, h2⟩
  · exact t x hx

end Go.Proofs.Ytldmeogadmgkiaa.Abs
