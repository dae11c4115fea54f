/- Functions: what their code computes over typed states, in the form that calls take. -/
import Derived.Test.YtlbammfnkphajaaGreatDoorAbsCode
namespace Go.Proofs.YtlbammfnkphajaaGreatDoor.Abs
open Go
set_option linter.unusedVariables false

section
variable {F : Nat → Prop} {P : Program} {TT : Nat → TI} {ρ : Type} {r : ρ}

/-! ### Data in which nothing lies that was lent -/

theorem cells_solid {A A' : Nat → Prop} {w : World} {n n' : Nat} {G G' : Gs} : ∀ (T : Ty) (d : T.D), T.solid = true → ∀ (c : Nat → Value), (∀ j, j < T.size → Rep A w n G ((cellsAV T d).getD j .dead) (c j)) → ∀ j, j < T.size → Rep A' w n' G' ((cellsAV T d).getD j .dead) (c j)
  | .int k, d, _, c, h, j, hj => by
    have h0 : j = 0 := by simpa [Ty.size] using hj
    subst h0
    have := h 0 hj
    simp only [cellsAV, List.getD_cons_zero] at this ⊢
    generalize c 0 = v at this
    cases this; exact .int _ _
  | .bool, d, _, c, h, j, hj => by
    have h0 : j = 0 := by simpa [Ty.size] using hj
    subst h0
    have := h 0 hj
    simp only [cellsAV, List.getD_cons_zero] at this ⊢
    generalize c 0 = v at this
    cases this; exact .bool _
  | .str, d, _, c, h, j, hj => by
    have h0 : j = 0 := by simpa [Ty.size] using hj
    subst h0
    have := h 0 hj
    simp only [cellsAV, List.getD_cons_zero] at this ⊢
    generalize c 0 = v at this
    cases this; exact .str _
  | .pair a b, d, hs, c, h, j, hj => by
    simp only [Ty.solid, Bool.and_eq_true] at hs
    have hl := cellsAV_length a d.1
    have ea : ∀ j, j < a.size → (cellsAV (.pair a b) d).getD j .dead = (cellsAV a d.1).getD j .dead := fun j hj => by simp [cellsAV, List.getD, List.getElem?_append, hl, hj]
    have eb : ∀ j, j < b.size → (cellsAV (.pair a b) d).getD (a.size + j) .dead = (cellsAV b d.2).getD j .dead := fun j hj => by
      have : ¬ a.size + j < a.size := by omega
      simp [cellsAV, List.getD, List.getElem?_append, hl, this]
    by_cases hlt : j < a.size
    · rw [ea j hlt]
      exact cells_solid a d.1 hs.1 c (fun q hq => by rw [← ea q hq]; exact h q (by simp [Ty.size]; omega)) j hlt
    · simp only [Ty.size] at hj
      have e1 : j = a.size + (j - a.size) := by omega
      rw [e1, eb _ (by omega)]
      exact cells_solid b d.2 hs.2 (fun q => c (a.size + q)) (fun q hq => by rw [← eb q hq]; exact h _ (by simp [Ty.size]; omega)) (j - a.size) (by omega)
  | .st a, d, hs, c, h, j, hj => cells_solid a d hs c h j hj
  | .unit, d, _, c, h, j, hj => by cases hj
  | .sl _, _, hs, _, _, _, _ => by cases hs
  | .ptr _, _, hs, _, _, _, _ => by cases hs
  | .map _ _, _, hs, _, _, _, _ => by cases hs
  | .nsl _, _, hs, _, _, _, _ => by cases hs

theorem toAV_solid {A A' : Nat → Prop} {w : World} {n n' : Nat} {G G' : Gs} {T : Ty} {d : T.D} {v : Value} (hs : T.solid = true) (h : Rep A w n G (toAV T d) v) : Rep A' w n' G' (toAV T d) v := by
  cases T with
  | int k => simp only [toAV] at h ⊢; cases h; exact .int _ _
  | bool => simp only [toAV] at h ⊢; cases h; exact .bool _
  | str => simp only [toAV] at h ⊢; cases h; exact .str _
  | unit =>
    simp only [toAV] at h ⊢
    cases h with
    | agg _ vs hl hr => exact .agg _ vs hl fun i hi => by cases hi
  | pair a b =>
    simp only [toAV] at h ⊢
    cases h with
    | agg _ vs hl hr =>
      exact .agg _ vs hl fun i hi => cells_solid (.pair a b) d hs (fun j => vs.getD j undef) (fun j hj => hr j (by rw [show (cellsAV a d.1 ++ cellsAV b d.2) = cellsAV (.pair a b) d from rfl, cellsAV_length]; exact hj)) i (by rw [← cellsAV_length (.pair a b) d]; exact hi)
  | st a =>
    simp only [toAV] at h ⊢
    cases h with
    | agg _ vs hl hr =>
      exact .agg _ vs hl fun i hi => cells_solid a d hs (fun j => vs.getD j undef) (fun j hj => hr j (by rw [cellsAV_length]; exact hj)) i (by rw [cellsAV_length] at hi; exact hi)
  | sl e => cases hs
  | nsl e => cases hs
  | ptr e => cases hs
  | map K V => cases hs

/-! ### Other numbers for the objects -/

/-- The objects have other numbers; what is data stays. -/
structure Ren (rn : Nat → Nat) (A : Nat → Prop) (n : Nat) (G : Gs) (A' : Nat → Prop) (n' : Nat) (G' : Gs) (solid : Bool) : Prop where
  lt : ∀ i, i < n → rn i < n'
  at' : ∀ i, i < n → G' (rn i) = G i
  sub : solid = false → ∀ b, A' b → A b

theorem Ren.data {rn : Nat → Nat} {A A' : Nat → Prop} {n n' : Nat} {G G' : Gs} {so : Bool} (h : Ren rn A n G A' n' G' so) {w : World} {T : Ty} {d : T.D} {v : Value} (hs : so = true → T.solid = true) (hx : Rep A w n G (toAV T d) v) : Rep A' w n' G' (toAV T d) v := by
  cases so with
  | true => exact toAV_solid (hs rfl) hx
  | false => exact hx.flatArg (h.sub rfl) (toAV_flat T d)

theorem Ren.cells {rn : Nat → Nat} {A A' : Nat → Prop} {n n' : Nat} {G G' : Gs} {so : Bool} (h : Ren rn A n G A' n' G' so) {w : World} {T : Ty} {d : T.D} (hs : so = true → T.solid = true) {c : Nat → Value} (hx : ∀ j, j < T.size → Rep A w n G ((cellsAV T d).getD j .dead) (c j)) :
    ∀ j, j < T.size → Rep A' w n' G' ((cellsAV T d).getD j .dead) (c j) := by
  cases so with
  | true => exact cells_solid T d (hs rfl) c hx
  | false => exact fun j hj => (hx j hj).flat (h.sub rfl) (all_getD (cellsAV_flat T d) (by rw [cellsAV_length]; exact hj))

theorem ref_ren {rn : Nat → Nat} {A A' : Nat → Prop} {n n' : Nat} {G G' : Gs} {so : Bool} (h : Ren rn A n G A' n' G' so) {w : World} {objs : List OT} {i : Nat} {v : Value} (hx : Rep A w n G (refAV objs i i) v) : Rep A' w n' G' (refAV objs i (rn i)) v := by
  unfold refAV at hx ⊢
  split
  · rename_i T ho
    rw [ho] at hx
    simp only at hx
    cases hx
    rename_i hj hv hg
    exact .slw _ _ (h.lt i hj) hv fun g hg' => hg g (by rw [← h.at' i hj]; exact hg')
  · rename_i T ho
    rw [ho] at hx
    simp only at hx
    cases hx
    rename_i hj hv hg
    exact .ptr _ _ _ _ (h.lt i hj) hv fun g hg' => hg g (by rw [← h.at' i hj]; exact hg')
  · rename_i K V ho
    rw [ho] at hx
    simp only at hx
    cases hx
    rename_i hj hv hg
    exact .map _ _ (h.lt i hj) hv fun g hg' => hg g (by rw [← h.at' i hj]; exact hg')
  · exact .dead _

theorem part_ren {rn : Nat → Nat} {A A' : Nat → Prop} {n n' : Nat} {G G' : Gs} {so : Bool} (h : Ren rn A n G A' n' G' so) {w : World} {objs : List OT} {i : Nat} {d : Nat × Nat} {v : Value} (hx : Rep A w n G (partAV' objs i i d) v) : Rep A' w n' G' (partAV' objs i (rn i) d) v := by
  unfold partAV' at hx ⊢
  split
  · rename_i T ho
    rw [ho] at hx
    simp only at hx
    cases hx
    rename_i hj hv hg
    exact .sl _ _ _ _ (h.lt i hj) hv fun g hg' => hg g (by rw [← h.at' i hj]; exact hg')
  · exact .dead _

theorem encL_ren {rn : Nat → Nat} {A A' : Nat → Prop} {n n' : Nat} {G G' : Gs} {so : Bool} (h : Ren rn A n G A' n' G' so) {w : World} {objs : List OT} : ∀ (s : Sh) (d : s.D) (vs : List Value), (so = true → s.solid = true) → RepL A w n G (encL objs id s d) vs → RepL A' w n' G' (encL objs rn s d) vs
  | .v T, d, vs, hs, hr => by
    match vs, hr with
    | [], hr => exact hr.elim
    | [v], hr => exact ⟨h.data hs hr.1, trivial⟩
    | _ :: _ :: _, hr => exact hr.2.elim
  | .ref i, d, vs, hs, hr => by
    match vs, hr with
    | [], hr => exact hr.elim
    | [v], hr => exact ⟨ref_ren h hr.1, trivial⟩
    | _ :: _ :: _, hr => exact hr.2.elim
  | .part i, d, vs, hs, hr => by
    match vs, hr with
    | [], hr => exact hr.elim
    | [v], hr => exact ⟨part_ren h hr.1, trivial⟩
    | _ :: _ :: _, hr => exact hr.2.elim
  | .nilptr, d, vs, hs, hr => by
    match vs, hr with
    | [], hr => exact hr.elim
    | [v], hr => obtain ⟨h1, _⟩ := hr; cases h1; exact ⟨.nilptr, trivial⟩
    | _ :: _ :: _, hr => exact hr.2.elim
  | .nilfn, d, vs, hs, hr => by
    match vs, hr with
    | [], hr => exact hr.elim
    | [v], hr => obtain ⟨h1, _⟩ := hr; cases h1; exact ⟨.nilfn, trivial⟩
    | _ :: _ :: _, hr => exact hr.2.elim
  | .nilmap, d, vs, hs, hr => by
    match vs, hr with
    | [], hr => exact hr.elim
    | [v], hr => obtain ⟨h1, _⟩ := hr; cases h1; exact ⟨.nilmap, trivial⟩
    | _ :: _ :: _, hr => exact hr.2.elim
  | .nilifc, d, vs, hs, hr => by
    match vs, hr with
    | [], hr => exact hr.elim
    | [v], hr => obtain ⟨h1, _⟩ := hr; cases h1; exact ⟨.nilifc, trivial⟩
    | _ :: _ :: _, hr => exact hr.2.elim
  | .nilsl, d, vs, hs, hr => by
    match vs, hr with
    | [], hr => exact hr.elim
    | [v], hr => obtain ⟨h1, _⟩ := hr; cases h1; exact ⟨.nilsl, trivial⟩
    | _ :: _ :: _, hr => exact hr.2.elim
  | .nil, d, vs, hs, hr => by
    have := repL_nil hr
    subst this; trivial
  | .fn f a b, d, vs, hs, hr => by
    match vs, hr with
    | [], hr => exact hr.elim
    | _ :: _ :: _, hr => exact hr.2.elim
    | [v], hr =>
      obtain ⟨h1, _⟩ := hr
      simp only [encL] at h1 ⊢
      have hsa : so = true → a.solid = true := fun e => by have := hs e; simp only [Sh.solid, Bool.and_eq_true] at this; exact this.1
      have hsb : so = true → b.solid = true := fun e => by have := hs e; simp only [Sh.solid, Bool.and_eq_true] at this; exact this.2
      cases h1 with
      | fn _ _ _ vf vc g1 g2 g3 g4 =>
        have m1 := encL_ren h a (PD.fst a.d0 a.u b.u d) vf.toList hsa (repL_of (by simpa using g1) fun i hi => by
          have hi' : i < vf.size := by omega
          have := g3 i hi
          simpa [List.getD, Array.getD, hi'] using this)
        have m2 := encL_ren h b (PD.snd b.d0 a.u b.u d) vc.toList hsb (repL_of (by simpa using g2) fun i hi => by
          have hi' : i < vc.size := by omega
          have := g4 i hi
          simpa [List.getD, Array.getD, hi'] using this)
        obtain ⟨n1, n2⟩ := repL_index m1
        obtain ⟨n3, n4⟩ := repL_index m2
        refine ⟨.fn _ _ _ vf vc (by simpa using n1) (by simpa using n3) (fun i hi => ?_) (fun i hi => ?_), trivial⟩
        · have hi' : i < vf.size := by rw [n1] at hi; simpa using hi
          have := n2 i hi
          simpa [List.getD, Array.getD, hi'] using this
        · have hi' : i < vc.size := by rw [n3] at hi; simpa using hi
          have := n4 i hi
          simpa [List.getD, Array.getD, hi'] using this
  | .fsl a, d, vs, hs, hr => by
    match vs, hr with
    | [], hr => exact hr.elim
    | _ :: _ :: _, hr => exact hr.2.elim
    | [v], hr =>
      obtain ⟨h1, _⟩ := hr
      simp only [encL] at h1 ⊢
      have hso : so = false := by
        cases hq : so with
        | false => rfl
        | true => have := hs hq; simp [Sh.solid] at this
      generalize hx : encL objs id a d = xs at h1
      cases h1 with
      | fsl _ b o cap cs hne hcap hnA hc g3 =>
        have m1 := encL_ren h a d ((List.range xs.length).map cs) (fun e => by rw [hso] at e; cases e) (by
          rw [hx]
          exact repL_of (by simp) fun i hi => by
            have := g3 i hi
            simpa [List.getD, hi] using this)
        obtain ⟨n1, n2⟩ := repL_index m1
        have n1' : (encL objs rn a d).length = xs.length := by rw [n1]; simp
        refine ⟨?_, trivial⟩
        rw [← n1']
        refine .fsl _ b o cap cs (fun e => hne (by rw [e] at n1'; exact List.length_eq_zero_iff.1 n1'.symm)) (by rw [n1']; exact hcap) (fun hb => hnA (h.sub hso b hb)) (fun m hm => hc m (by rw [← n1']; exact hm)) (fun i hi => ?_)
        have hi' : i < xs.length := by rw [← n1']; exact hi
        have := n2 i hi
        simpa [List.getD, hi'] using this
  | .cons a b, d, vs, hs, hr => by
    simp only [encL] at hr ⊢
    obtain ⟨us, ws, rfl, h1, h2⟩ := repL_split hr
    exact repL_append (encL_ren h a _ us (fun e => by have := hs e; simp only [Sh.solid, Bool.and_eq_true] at this; exact this.1) h1) (encL_ren h b _ ws (fun e => by have := hs e; simp only [Sh.solid, Bool.and_eq_true] at this; exact this.2) h2)

theorem encO_ren {rn : Nat → Nat} {A A' : Nat → Prop} {n n' : Nat} {G G' : Gs} {so : Bool} (h : Ren rn A n G A' n' G' so) {w : World} {objs : List OT} {o : OT} {d : o.D} {g : Gh} (hs : so = true → o.solid = true) (hr : ObjRep A w n G (encO objs id o d) g) : ObjRep A' w n' G' (encO objs rn o d) g := by
  cases o with
  | dead => exact hr
  | arr T =>
    obtain ⟨h1, h2, h3, h4, h5, h6⟩ := hr
    refine ⟨h1, h2, h3, h4, h5, fun b hb => ?_⟩
    obtain ⟨C, hrow, hrep⟩ := h6 b hb
    exact ⟨C, hrow, fun i j hi hj => h.cells (c := fun j => C (g.base + i * T.size + j)) hs (fun j hj => hrep i j hi hj) j hj⟩
  | box fs =>
    obtain ⟨h1, h2, b, hb, C, hrow, hrep⟩ := hr
    have m := encL_ren h fs d _ hs (repL_cells hrep)
    obtain ⟨n1, n2⟩ := repL_index m
    simp only [List.length_map, List.length_range] at n1
    refine ⟨h1, by rw [n1]; exact h2, b, hb, C, by rw [n1]; exact hrow, fun q hq => ?_⟩
    have := n2 q hq
    have hq' : q < (encL objs id fs d).length := by omega
    have e : ((List.range (encL objs id fs d).length).map fun j => C (g.base + j)).getD q undef = C (g.base + q) := by simp [List.getD, hq']
    rw [e] at this
    exact this
  | map K V =>
    obtain ⟨b, ms, clock, h1, h2, h3, h4, h5, h6⟩ := hr
    refine ⟨b, ms, clock, h1, h2, h3, h4, fun i hi => h.data (fun e => ?_) (h5 i hi), fun i hi => h.data (fun e => ?_) (h6 i hi)⟩
    · have := hs e; simp only [OT.solid, Bool.and_eq_true] at this; exact this.1
    · have := hs e; simp only [OT.solid, Bool.and_eq_true] at this; exact this.2

theorem encOs_get (objs : List OT) (rn : Nat → Nat) : ∀ (l : List OT) (d : objsD l) (i : Nat), i < l.length → ∃ o d', l[i]? = some o ∧ (encOs objs rn l d).getD i .dead = encO objs rn o d' ∧ ∀ rn', (encOs objs rn' l d).getD i .dead = encO objs rn' o d'
  | o :: l, d, 0, _ => ⟨o, _, rfl, rfl, fun _ => rfl⟩
  | o :: l, d, i + 1, hi => by
    obtain ⟨o', d', h1, h2, h3⟩ := encOs_get objs rn l (PD.snd (objsD0 l) o.u (objsU l) d) i (by simpa using hi)
    exact ⟨o', d', by simpa using h1, by simpa [encOs] using h2, fun rn' => by simpa [encOs] using h3 rn'⟩

/-! ### The caller's objects behind a call -/

theorem setAll_length : ∀ (js : List Nat) (ob os : List AO), js.length ≤ os.length → (setAll ob js os).length = ob.length + (os.length - js.length)
  | [], ob, os, _ => by simp [setAll]
  | _ :: _, ob, [], h => by simp at h
  | j :: js, ob, o :: os, h => by
    rw [setAll, setAll_length js _ os (by simpa using h)]
    simp

theorem setAll_other : ∀ (js : List Nat) (ob os : List AO) (j : Nat), j < ob.length → j ∉ js → (setAll ob js os).getD j .dead = ob.getD j .dead
  | [], ob, os, j, hj, _ => by simp [setAll, List.getD, List.getElem?_append, hj]
  | _ :: _, ob, [], j, _, _ => by simp [setAll]
  | i :: js, ob, o :: os, j, hj, hn => by
    simp only [List.mem_cons, not_or] at hn
    rw [setAll, setAll_other js _ os j (by simpa using hj) hn.2]
    have : i ≠ j := fun e => hn.1 e.symm
    simp [List.getD, this]

theorem setAll_new : ∀ (js : List Nat) (ob os : List AO) (t : Nat), js.length ≤ os.length → (setAll ob js os).getD (ob.length + t) .dead = os.getD (js.length + t) .dead
  | [], ob, os, t, _ => by simp only [setAll, List.getD, List.length_nil, Nat.zero_add]; rw [List.getElem?_append_right (by omega)]; simp
  | _ :: _, ob, [], t, h => by simp at h
  | j :: js, ob, o :: os, t, h => by
    have := setAll_new js (ob.set j o) os t (by simpa using h)
    rw [List.length_set] at this
    rw [setAll, this, List.length_cons, show js.length + 1 + t = (js.length + t) + 1 by omega, List.getD_cons_succ]

theorem setAll_in : ∀ (js : List Nat) (ob os : List AO) (i : Nat), js.Nodup → (∀ j ∈ js, j < ob.length) → i < js.length → js.length ≤ os.length → (setAll ob js os).getD (js.getD i 0) .dead = os.getD i .dead
  | [], ob, os, i, _, _, hi, _ => by cases hi
  | _ :: _, ob, [], i, _, _, _, h => by simp at h
  | j :: js, ob, o :: os, i, hn, hb, hi, hl => by
    have hn' := List.nodup_cons.1 hn
    cases i with
    | zero =>
      simp only [List.getD_cons_zero]
      rw [setAll, setAll_other js _ os j (by simpa using hb j List.mem_cons_self) hn'.1]
      have := hb j List.mem_cons_self
      simp [List.getD, this]
    | succ i =>
      simp only [List.getD_cons_succ]
      rw [setAll, setAll_in js _ os i hn'.2 (fun k hk => by simpa using hb k (List.mem_cons_of_mem _ hk)) (by simpa using hi) (by simpa using hl)]

/-- The places behind a call. -/
def Gmerge (G : Gs) (n : Nat) (js : List Nat) (G2 : Gs) : Gs := fun j =>
  if j < n then
    match js.idxOf? j with
    | some i => G2 i
    | none => G j
  else G2 (js.length + (j - n))

theorem idxOf_spec : ∀ {js : List Nat} {j i : Nat}, js.idxOf? j = some i → i < js.length ∧ js.getD i 0 = j := by
  intro js j i h
  rw [List.idxOf?_eq_some_iff] at h
  obtain ⟨h1, h2, _⟩ := h
  exact ⟨h1, by simpa [List.getD, h1] using h2⟩

theorem idxOf_in : ∀ {js : List Nat} {i : Nat}, js.Nodup → i < js.length → js.idxOf? (js.getD i 0) = some i := by
  intro js i hn hi
  have e : js.getD i 0 = js[i] := by simp [List.getD, hi]
  rw [e, List.idxOf?_eq_some_iff]
  refine ⟨hi, rfl, fun j hj h => ?_⟩
  exact List.pairwise_iff_getElem.1 hn j i (by omega) hi hj h

theorem Gmerge_new {G : Gs} {n : Nat} {js : List Nat} {G2 : Gs} (hn : js.Nodup) (hb : ∀ j ∈ js, j < n) (i : Nat) : Gmerge G n js G2 (newIdx js n i) = G2 i := by
  unfold Gmerge newIdx
  by_cases h : i < js.length
  · rw [if_pos h]
    have hm : js.getD i 0 ∈ js := by
      have e : js.getD i 0 = js[i] := by simp [List.getD, h]
      rw [e]; exact List.getElem_mem h
    rw [if_pos (hb _ hm), idxOf_in hn h]
  · rw [if_neg h, if_neg (by omega)]
    congr 1; omega

theorem Gmerge_cases {G : Gs} {n : Nat} {js : List Nat} {G2 : Gs} {j : Nat} {g : Gh} (h : Gmerge G n js G2 j = some g) :
    (∃ i, j = newIdx js n i ∧ G2 i = some g) ∨ (j < n ∧ j ∉ js ∧ G j = some g) := by
  unfold Gmerge at h
  split at h
  · rename_i hj
    split at h
    · rename_i i hi
      obtain ⟨h1, h2⟩ := idxOf_spec hi
      exact .inl ⟨i, by rw [newIdx, if_pos h1, h2], h⟩
    · rename_i hi
      rw [List.idxOf?_eq_none_iff] at hi
      exact .inr ⟨hj, hi, h⟩
  · rename_i hj
    refine .inl ⟨js.length + (j - n), ?_, h⟩
    rw [newIdx, if_neg (by omega)]; omega

theorem jsOf_spec : ∀ {src : List (Option Whence)} {js : List Nat}, jsOf src = some js → src = js.map fun j => some (.obj j)
  | [], js, h => by
    simp only [jsOf, Option.some.injEq] at h
    subst h; rfl
  | none :: _, js, h => by simp [jsOf] at h
  | some (.part _ _ _) :: _, js, h => by simp [jsOf] at h
  | some .empty :: _, js, h => by simp [jsOf] at h
  | some (.obj j) :: src, js, h => by
    simp only [jsOf, Option.bind_eq_some_iff, Option.some.injEq] at h
    obtain ⟨js', h1, rfl⟩ := h
    rw [jsOf_spec h1]; rfl

theorem empty_inv (n : Nat) (G : Gs) (m : Nat) : AccInv n G ⟨List.replicate m none, [], []⟩ := by
  have hs : ∀ (i : Nat) (x : Whence), (List.replicate m (none : Option Whence))[i]? ≠ some (some x) := by
    intro i x h
    obtain ⟨h1, h2⟩ := List.getElem?_eq_some_iff.1 h
    simp at h2
  exact ⟨fun i x j h => absurd h (hs i x), fun i x j h => absurd h (hs i x), fun i i' x x' j h => absurd h (hs i x), fun i j off len h => absurd h (hs i _)⟩

theorem outInj_sound : ∀ (outs : List Spec) (st : St) (y : OutD outs), outInj outs st = some y → ∃ o ∈ outs, ∃ d, o.dec st = some d ∧ ∀ {τ : Type} (k : (o : Spec) → o.D → Option τ), outK outs y k = k o d
  | [], st, y, _ => nomatch y
  | [a], st, y, h => ⟨a, by simp, y, h, fun k => rfl⟩
  | a :: b :: r, st, y, h => by
    simp only [outInj] at h
    split at h
    · rename_i d hd
      simp only [Option.some.injEq] at h
      subst h
      exact ⟨a, by simp, d, hd, fun k => rfl⟩
    · simp only [Option.bind_eq_some_iff, Option.some.injEq] at h
      obtain ⟨y', h1, rfl⟩ := h
      obtain ⟨o, ho, d, hd, hk⟩ := outInj_sound (b :: r) st y' h1
      exact ⟨o, List.mem_cons_of_mem _ ho, d, hd, fun k => hk k⟩

def Sh.len : Sh → Nat
  | .nil => 0
  | .cons a b => a.len + b.len
  | _ => 1

theorem encL_length (objs : List OT) (rn : Nat → Nat) : ∀ (s : Sh) (d : s.D), (encL objs rn s d).length = s.len
  | .v _, _ => rfl
  | .ref _, _ => rfl
  | .part _, _ => rfl
  | .nilptr, _ => rfl
  | .nilfn, _ => rfl
  | .nilmap, _ => rfl
  | .nilifc, _ => rfl
  | .nilsl, _ => rfl
  | .fn _ _ _, _ => rfl
  | .fsl _, _ => rfl
  | .nil, _ => rfl
  | .cons a b, d => by simp only [encL, List.length_append, encL_length objs rn a, encL_length objs rn b, Sh.len]

/-- What a call leaves, seen by its caller. -/
theorem merge_sound {Fb : Nat → Prop} {w w' : World} {G Gc G2 : Gs} {ob : List AO} {js gone : List Nat} {objs : List OT} {d : objsD objs} {so : Bool} (inv : Inv Fb w G ob) (hn : js.Nodup) (hb : ∀ j ∈ js, j < ob.length) (hl : js.length ≤ objs.length)
    (hGc : ∀ i, i < js.length → Gc i = none ∨ Gc i = G (js.getD i 0)) (hGc0 : ∀ i, js.length ≤ i → Gc i = none) (hgone : ∀ j ∈ gone, j ∉ js)
    (inv2 : Inv (fun b => avoid Fb G b ∧ ¬ Gc.has b ∧ ∀ j g, j ∈ gone → G j = some g → g.blk ≠ some b) w' G2 (encOs objs id objs d)) (ht : Trans js.length w Gc w' G2) (hso : so = false → gone = []) (hso2 : so = true → objs.all OT.solid = true) :
    Inv Fb w' (Gmerge G ob.length js G2) (setAll ob js (encOs objs (newIdx js ob.length) objs d)) ∧ Trans ob.length w G w' (Gmerge G ob.length js G2) ∧ ob.length ≤ (setAll ob js (encOs objs (newIdx js ob.length) objs d)).length ∧
      Ren (newIdx js ob.length) (avoid (fun b => avoid Fb G b ∧ ¬ Gc.has b ∧ ∀ j g, j ∈ gone → G j = some g → g.blk ≠ some b) G2) objs.length G2
        (avoid Fb (Gmerge G ob.length js G2)) (setAll ob js (encOs objs (newIdx js ob.length) objs d)).length (Gmerge G ob.length js G2) so := by
  have hle := encOs_length objs (newIdx js ob.length) objs d
  have hle2 := encOs_length objs id objs d
  have hlen : (setAll ob js (encOs objs (newIdx js ob.length) objs d)).length = ob.length + (objs.length - js.length) := by rw [setAll_length _ _ _ (by omega), hle]
  have hmem : ∀ i, i < js.length → js.getD i 0 ∈ js := fun i hi => by
    have e : js.getD i 0 = js[i] := by simp [List.getD, hi]
    rw [e]; exact List.getElem_mem hi
  have hcHas : ∀ b, Gc.has b → ∃ j g, j ∈ js ∧ G j = some g ∧ g.blk = some b := by
    rintro b ⟨i, g, hg, hgb⟩
    by_cases hi : i < js.length
    · rcases hGc i hi with h | h
      · rw [h] at hg; cases hg
      · exact ⟨_, g, hmem i hi, by rw [← h]; exact hg, hgb⟩
    · rw [hGc0 i (by omega)] at hg; cases hg
  have hFb : ∀ b, Fb b → (avoid Fb G b ∧ ¬ Gc.has b ∧ ∀ j g, j ∈ gone → G j = some g → g.blk ≠ some b) := fun b h => ⟨.inl h, fun hh => by
    obtain ⟨j, g, _, hg, hgb⟩ := hcHas b hh
    exact (inv.free j g b hg hgb).1 h, fun j g _ hg hgb => (inv.free j g b hg hgb).1 h⟩
  have h2has : ∀ b, G2.has b → (∃ j g, j ∈ js ∧ G j = some g ∧ g.blk = some b) ∨ w.heap.size ≤ b := fun b h => by
    rcases ht.own b h with h | h
    · exact .inl (hcHas b h)
    · exact .inr h
  have hmHas : ∀ b, (Gmerge G ob.length js G2).has b → G2.has b ∨ ∃ j g, j < ob.length ∧ j ∉ js ∧ G j = some g ∧ g.blk = some b := by
    rintro b ⟨j, g, hg, hgb⟩
    rcases Gmerge_cases hg with ⟨i, _, hi⟩ | ⟨h1, h2, h3⟩
    · exact .inl ⟨i, g, hi, hgb⟩
    · exact .inr ⟨j, g, h1, h2, h3, hgb⟩
  have hother : ∀ j g b, j ∉ js → G j = some g → g.blk = some b → ¬ Gc.has b ∧ ¬ G2.has b := by
    intro j g b hj hg hgb
    have h1 : ¬ Gc.has b := fun hh => by
      obtain ⟨j', g', hj', hg', hgb'⟩ := hcHas b hh
      exact hj (by rw [inv.inj j j' g g' b hg hg' hgb hgb']; exact hj')
    refine ⟨h1, fun hh => ?_⟩
    rcases ht.own b hh with h | h
    · exact h1 h
    · have := (inv.free j g b hg hgb).2; omega
  have htr : Trans ob.length w G w' (Gmerge G ob.length js G2) := by
    refine ⟨ht.os, ht.tape, ht.output, ht.size, fun b hb' hnb => ht.frame b hb' fun hh => ?_, fun b hb' => ?_, fun j hj => ?_⟩
    · obtain ⟨j, g, _, hg, hgb⟩ := hcHas b hh
      exact hnb ⟨j, g, hg, hgb⟩
    · rcases hmHas b hb' with h | ⟨j, g, _, _, hg, hgb⟩
      · rcases h2has b h with ⟨j, g, _, hg, hgb⟩ | h
        · exact .inl ⟨j, g, hg, hgb⟩
        · exact .inr h
      · exact .inl ⟨j, g, hg, hgb⟩
    · unfold Gmerge
      rw [if_pos hj]
      split
      · rename_i i hi
        obtain ⟨h1, h2⟩ := idxOf_spec hi
        rcases ht.keep i h1 with h | h
        · exact .inl h
        · rcases hGc i h1 with h3 | h3
          · left; rw [h, h3]
          · right; rw [h, h3, h2]
      · exact .inr rfl
  have hren : Ren (newIdx js ob.length) (avoid (fun b => avoid Fb G b ∧ ¬ Gc.has b ∧ ∀ j g, j ∈ gone → G j = some g → g.blk ≠ some b) G2) objs.length G2
        (avoid Fb (Gmerge G ob.length js G2)) (setAll ob js (encOs objs (newIdx js ob.length) objs d)).length (Gmerge G ob.length js G2) so := by
    refine ⟨fun i hi => ?_, fun i hi => Gmerge_new hn hb i, fun hs b hb' => ?_⟩
    · rw [hlen]
      unfold newIdx
      split
      · have := hb _ (hmem i (by assumption)); omega
      · omega
    · have hg0 := hso hs
      subst hg0
      rcases hb' with h | h
      · exact .inl (hFb b h)
      · rcases hmHas b h with h | ⟨j, g, _, hj, hg, hgb⟩
        · exact .inr h
        · exact .inl ⟨.inr ⟨j, g, hg, hgb⟩, (hother j g b hj hg hgb).1, fun j' g' hj' => by cases hj'⟩
  refine ⟨⟨fun j g hg => ?_, fun j hj g hg => ?_, fun j hj hg => ?_, fun j j' g g' b hg hg' hgb hgb' => ?_, fun j g b hg hgb => ?_, fun b hb' => Nat.lt_of_lt_of_le (inv.old b hb') ht.size⟩, htr, by omega, hren⟩
  · rcases Gmerge_cases hg with ⟨i, rfl, hi⟩ | ⟨h1, _, _⟩
    · exact hren.lt i (by have := inv2.dom i g hi; rw [hle2] at this; exact this)
    · omega
  · rcases Gmerge_cases hg with ⟨i, rfl, hi⟩ | ⟨h1, h2, h3⟩
    · have hi2 : i < objs.length := by have := inv2.dom i g hi; rw [hle2] at this; exact this
      have hobj := inv2.live i (by rw [hle2]; exact hi2) g hi
      rw [hle2] at hobj
      obtain ⟨o, d', e1, e2, e3⟩ := encOs_get objs id objs d i hi2
      have hget : (setAll ob js (encOs objs (newIdx js ob.length) objs d)).getD (newIdx js ob.length i) .dead = encO objs (newIdx js ob.length) o d' := by
        by_cases hij : i < js.length
        · have e5 : newIdx js ob.length i = js.getD i 0 := if_pos hij
          rw [e5, setAll_in js ob _ i hn hb hij (by rw [hle]; exact hl)]
          exact e3 _
        · have e5 : newIdx js ob.length i = ob.length + (i - js.length) := if_neg hij
          rw [e5, setAll_new js ob _ _ (by rw [hle]; exact hl), show js.length + (i - js.length) = i by omega]
          exact e3 _
      rw [hget]
      rw [e2] at hobj
      refine encO_ren hren (fun hs => ?_) hobj
      exact List.all_eq_true.1 (hso2 hs) o (List.mem_of_getElem? e1)
    · rw [setAll_other js ob _ j h1 h2]
      refine (inv.live j h1 g h3).stays (htr.stays (F := Fb) (by omega)) fun b hgb => ?_
      exact ht.frame b (inv.free j g b h3 hgb).2 (hother j g b h2 h3 hgb).1
  · unfold Gmerge at hg
    split at hg
    · rename_i hjl
      split at hg
      · rename_i i hi
        obtain ⟨h1, h2⟩ := idxOf_spec hi
        rw [← h2, setAll_in js ob _ i hn hb h1 (by rw [hle]; exact hl)]
        have := inv2.there i (by rw [hle2]; omega) hg
        obtain ⟨o, d', e1, e2, e3⟩ := encOs_get objs id objs d i (by omega)
        rw [e3]
        rw [e2] at this
        cases o <;> simp only [encO] at this ⊢ <;> cases this
      · rename_i hi
        rw [List.idxOf?_eq_none_iff] at hi
        rw [setAll_other js ob _ j hjl hi]
        exact inv.there j hjl hg
    · rename_i hjl
      rw [hlen] at hj
      have e0 : j = ob.length + (j - ob.length) := by omega
      rw [e0, setAll_new js ob _ _ (by rw [hle]; exact hl)]
      have hlt : js.length + (j - ob.length) < objs.length := by omega
      have := inv2.there _ (by rw [hle2]; exact hlt) hg
      obtain ⟨o, d', e1, e2, e3⟩ := encOs_get objs id objs d _ hlt
      rw [e3]
      rw [e2] at this
      cases o <;> simp only [encO] at this ⊢ <;> cases this
  · rcases Gmerge_cases hg with ⟨i, rfl, hi⟩ | ⟨h1, h2, h3⟩
    · rcases Gmerge_cases hg' with ⟨i', rfl, hi'⟩ | ⟨h1', h2', h3'⟩
      · rw [inv2.inj i i' g g' b hi hi' hgb hgb']
      · exact absurd ⟨i, g, hi, hgb⟩ (hother j' g' b h2' h3' hgb').2
    · rcases Gmerge_cases hg' with ⟨i', rfl, hi'⟩ | ⟨h1', h2', h3'⟩
      · exact absurd ⟨i', g', hi', hgb'⟩ (hother j g b h2 h3 hgb).2
      · exact inv.inj j j' g g' b h3 h3' hgb hgb'
  · rcases Gmerge_cases hg with ⟨i, rfl, hi⟩ | ⟨h1, h2, h3⟩
    · obtain ⟨g1, g2⟩ := inv2.free i g b hi hgb
      exact ⟨fun h => g1 (hFb b h), g2⟩
    · obtain ⟨g1, g2⟩ := inv.free j g b h3 hgb
      exact ⟨g1, Nat.lt_of_lt_of_le g2 ht.size⟩

/-! ### Functions -/

theorem fn_sound (tt : TTok P TT) (hmix : P.follows .mixedOrders = true) {fid : Nat} {fn : Func} {c : Code} {x : Ann} {ins : Spec} {outs : List Spec} {N : Nat} (hf : P.funcs[fid]? = some fn) (hb : fn.body = some c) (hN : fn.ntmps = N)
    (hres : outs.all (fun o => decide (fn.results.size = o.slots.length) && (List.range o.slots.length).all fun i => match fn.results[i]?, o.slots[i]? with | some (.tmp t), some s => t == s | _, _ => false) = true)
    (hrs : outs.all (fun o => o.ok ins.objs.length N) = true) (hx : x.ok P ins.objs.length N) (hp : ins.vs.len ≤ N) : FnSound P fid (mkFun ins outs (absFn TT N ins outs c x)) := by
  intro ρ args ob k r e Fb w G vs inv hargs
  unfold mkFun at e
  simp only [Option.bind_eq_some_iff] at e
  obtain ⟨⟨d, fin⟩, hread, js, hjs, e⟩ := e
  simp only at hjs e
  split at e
  case h_2 => cases e
  rename_i hlend
  simp only [Option.bind_eq_some_iff] at e
  obtain ⟨y, hy, e⟩ := e
  obtain ⟨le, in2, hap, hfrom, hF⟩ := read_sound inv hread (empty_inv _ G _) hargs
  have hsrc := jsOf_spec hjs
  have hsl : fin.src.length = ins.objs.length := by rw [le.len]; simp
  have hjl : js.length = ins.objs.length := by rw [← hsl, hsrc, List.length_map]
  have hsi : ∀ i, i < js.length → fin.src[i]? = some (some (.obj (js.getD i 0))) := fun i hi => by
    rw [hsrc]; simp [List.getD, hi]
  have hjb : ∀ j ∈ js, j < ob.length := fun j hj => by
    obtain ⟨i, hi, rfl⟩ := List.getElem_of_mem hj
    have := in2.lt i _ _ (hsi i hi) rfl
    simpa [List.getD, hi] using this
  have hjn : js.Nodup := by
    rw [List.Nodup, List.pairwise_iff_getElem]
    intro i i' hi hi' hlt heq
    have e1 : js.getD i 0 = js[i] := by simp [List.getD, hi]
    have e2 : js.getD i' 0 = js[i'] := by simp [List.getD, hi']
    have := in2.inj i i' _ _ (js.getD i 0) (hsi i hi) (hsi i' hi') rfl (by rw [Whence.j, e1, e2, heq])
    omega
  have hjo : ∀ j ∈ js, j ∈ fin.own := fun j hj => by
    obtain ⟨i, hi, rfl⟩ := List.getElem_of_mem hj
    have := in2.own i _ _ (hsi i hi) rfl
    simpa [List.getD, hi] using this
  -- the callee's objects
  obtain ⟨Gc, hGcd⟩ : ∃ Gc, Gc = Gn fin.src ins.objs G := ⟨_, rfl⟩
  rw [← hGcd] at hfrom hF
  have hGc : ∀ i, i < js.length → Gc i = none ∨ Gc i = G (js.getD i 0) := fun i hi => by
    rw [hGcd]
    have hi2 : i < ins.objs.length := by omega
    have ho : ins.objs[i]? = some ins.objs[i] := by simp [hi2]
    unfold Gn
    rw [hsi i hi, ho]
    cases ins.objs[i] <;> simp
  have hGc0 : ∀ i, js.length ≤ i → Gc i = none := fun i hi => by
    cases hg : Gc i with
    | none => rfl
    | some g => rw [hGcd] at hg; have := Gn_lt hg; omega
  have hgone : ∀ j ∈ fin.gone, j ∉ js := fun j hj hj' => hap j (hjo j hj') hj
  obtain ⟨g1, g2⟩ := hF (fun b => avoid Fb G b ∧ ¬ Gc.has b ∧ ∀ j g, j ∈ fin.gone → G j = some g → g.blk ≠ some b) (fun b h => ⟨h.1, h.2.2⟩) (fun b h => h.2.1) (fun b h => by
    rcases h.1 with h | ⟨j, g, hg, hgb⟩
    · exact inv.old b h
    · exact (inv.free j g b hg hgb).2)
  have hol := encOs_length ins.objs id ins.objs (ins.objs_ d)
  have hal := encL_length ins.objs id ins.vs (ins.vs_ d)
  obtain ⟨hi1, hi2⟩ := repL_index g2
  have hvl : vs.size = ins.vs.len := by rw [← hal, hi1]; simp
  refine callsIn_wide.1 (callsIn_of_wp_marks (F := Fence.wide) (n := 0) hf hb trivial ?_)
  have hS : S (fun b => avoid Fb G b ∧ ¬ Gc.has b ∧ ∀ j g, j ∈ fin.gone → G j = some g → g.blk ≠ some b) ins.objs.length w Gc N (ins.init N d) { tmps := vs ++ Array.replicate (fn.ntmps - vs.size) undef, defers := [] } w := by
    refine ⟨Gc, g1, ?_, ⟨Trans.refl _ _ _, by show _ ≤ (encOs _ _ _ _).length; rw [hol]; exact Nat.le_refl _⟩, Marks.nil, by simp [Spec.init, hal]; omega⟩
    show Slots _ w (encOs ins.objs id ins.objs (ins.objs_ d)).length Gc _ _
    rw [hol]
    refine ⟨by simp [Spec.init, hal, hvl, hN], fun i hi => ?_⟩
    have hiN : i < N := by simp [Spec.init, hal] at hi; omega
    by_cases hlt : i < ins.vs.len
    · have e1 : (ins.init N d).sl.getD i .dead = (encL ins.objs id ins.vs (ins.vs_ d)).getD i .dead := by simp [Spec.init, List.getD, List.getElem?_append, hal, hlt]
      have hlt2 : i < vs.size := by omega
      have e2 : (vs ++ Array.replicate (fn.ntmps - vs.size) undef).getD i undef = vs.toList.getD i undef := by
        have : i < vs.size + (fn.ntmps - vs.size) := by omega
        simp [Array.getD, List.getD, hlt2, this]
      rw [e1]
      show Rep _ _ _ _ _ ((vs ++ Array.replicate (fn.ntmps - vs.size) undef).getD i undef)
      rw [e2]
      exact hi2 i (by omega)
    · have e1 : (ins.init N d).sl.getD i .dead = .undef := by
        have h3 : i - ins.vs.len < N - ins.vs.len := by omega
        simp [Spec.init, List.getD, List.getElem?_append, hal, hlt, h3]
      have e2 : (vs ++ Array.replicate (fn.ntmps - vs.size) undef).getD i undef = undef := by
        have h3 : ¬ i < vs.size := by omega
        by_cases h4 : i < vs.size + (fn.ntmps - vs.size)
        · simp [Array.getD, h4, Array.getElem_append, h3]
        · simp [Array.getD, h4]
      rw [e1]
      show Rep _ _ _ _ _ ((vs ++ Array.replicate (fn.ntmps - vs.size) undef).getD i undef)
      rw [e2]
      exact .undef
  have hend : ∀ st a w', S (fun b => avoid Fb G b ∧ ¬ Gc.has b ∧ ∀ j g, j ∈ fin.gone → G j = some g → g.blk ≠ some b) ins.objs.length w Gc N st a w' → outInj outs st = some y →
      ∃ v, (results fn a.tmps).run P w' = .ok v w' ∧ ∃ res ob' G' v', Ending.returned v = .returned v' ∧ k res ob' = some r ∧ RepRes (avoid Fb G') w' ob'.length G' res v' ∧ Inv Fb w' G' ob' ∧ Trans ob.length w G w' G' ∧ ob.length ≤ ob'.length := by
    intro st a w' hS' hinj
    obtain ⟨o, ho, d2, hdec, hout⟩ := outInj_sound outs st y hinj
    rw [hout] at e
    have hok := List.all_eq_true.1 hrs o ho
    have hres' := List.all_eq_true.1 hres o ho
    obtain ⟨G', inv', hsl', htr, hdf, hN'⟩ := hS'
    simp only [Spec.ok, Bool.and_eq_true, decide_eq_true_eq, List.all_eq_true] at hok
    obtain ⟨⟨⟨h1, h2⟩, h3⟩, h4⟩ := hok
    unfold Spec.dec at hdec
    simp only [Option.map_eq_some_iff] at hdec
    obtain ⟨⟨d', fin2⟩, e1, rfl⟩ := hdec
    have hr : RepL (avoid (fun b => avoid Fb G b ∧ ¬ Gc.has b ∧ ∀ j g, j ∈ fin.gone → G j = some g → g.blk ≠ some b) G') w' st.ob.length G' (o.slots.map fun i => st.sl.getD i .dead) (o.slots.map fun i => a.tmps.getD i undef) :=
      repL_of (by simp) fun i hi => by
        have hi' : i < o.slots.length := by simpa using hi
        have e1 : (o.slots.map fun i => st.sl.getD i .dead).getD i .dead = st.sl.getD o.slots[i] .dead := by simp [List.getD, hi']
        have e2 : (o.slots.map fun i => a.tmps.getD i undef).getD i undef = a.tmps.getD o.slots[i] undef := by simp [List.getD, hi']
        rw [e1, e2]; exact hsl'.eval (a := a) _
    obtain ⟨le2, _, _, hfrom2, hF2⟩ := read_sound inv' e1 (start_inv G' o.np o.objs _ (by have := htr.le; omega)) hr
    obtain ⟨k1, k2⟩ := hF2 (fun b => avoid Fb G b ∧ ¬ Gc.has b ∧ ∀ j g, j ∈ fin.gone → G j = some g → g.blk ≠ some b) (fun b hb => ⟨.inl hb, fun j g _ hg hgb => (inv'.free j g b hg hgb).1 hb⟩) (fun b hb hh => by
      obtain ⟨j, g, _, hg, hgb⟩ := hfrom2 b hh
      exact (inv'.free j g b hg hgb).1 hb) inv'.old
    have ht2 : Trans js.length w Gc w' (Gn fin2.src o.objs G') := by
      refine ⟨htr.t.os, htr.t.tape, htr.t.output, htr.t.size, htr.t.frame, fun b hb => ?_, fun i hi => ?_⟩
      · obtain ⟨j, g, _, hg, hgb⟩ := hfrom2 b hb
        exact htr.t.own b ⟨j, g, hg, hgb⟩
      · rcases start_keep (G := G') le2 (i := i) (by omega) (by omega) with h | h
        · exact .inl h
        · rw [h]; exact htr.t.keep i (by omega)
    obtain ⟨so, hso, hso2, hso3⟩ : ∃ so : Bool, (so = false → fin.gone = []) ∧ (so = true → o.objs.all OT.solid = true) ∧ (so = true → o.vs.solid = true) := by
      cases hg : fin.gone with
      | nil => exact ⟨false, fun _ => rfl, (fun h => nomatch h), (fun h => nomatch h)⟩
      | cons q l =>
        rw [hg] at hlend
        have := List.all_eq_true.1 hlend o ho
        simp only [Spec.solid, Bool.and_eq_true] at this
        exact ⟨true, (fun h => nomatch h), fun _ => this.2, fun _ => this.1⟩
    obtain ⟨m1, m2, m3, m4⟩ := merge_sound inv hjn hjb (by omega) hGc hGc0 hgone k1 ht2 hso hso2
    have hrep := encL_ren m4 o.vs (o.vs_ d') _ hso3 k2
    have hrr : fn.results = (o.slots.map ResultVar.tmp).toArray := by
      simp only [Bool.and_eq_true, decide_eq_true_eq, List.all_eq_true, List.mem_range] at hres'
      obtain ⟨q1, q2⟩ := hres'
      apply Array.ext
      · simp [q1]
      · intro i hi hi'
        have hi3 : i < o.slots.length := by omega
        have := q2 i hi3
        simp only [Array.getElem?_eq_getElem hi, List.getElem?_eq_getElem hi3] at this
        split at this
        · rename_i t s ht hs
          simp only [Option.some.injEq] at ht hs
          have hts : t = s := by simpa using this
          simp [ht, hs, hts]
        · cases this
    refine ⟨_, results_run (P := P) hrr a.tmps, _, _, _, _, rfl, e, ?_, m1, m2, m3⟩
    generalize encL o.objs (newIdx js ob.length) o.vs (o.vs_ d') = q at hrep
    generalize (o.slots.map fun s => a.tmps.getD s undef) = us at hrep
    match q, us, hrep with
    | [], [], _ => exact ⟨#[], rfl, trivial⟩
    | [x], [u], h => exact h.1
    | x :: y :: l, u :: v :: us, h => exact ⟨_, rfl, h⟩
  exact code_sound tt hmix c none _ _ _ x y _ _ w _ _ _ _ hx (.inl rfl) ⟨hS, fun q => by cases q⟩ hy (fun st a w' h1 h2 => leaves_end (fun w'' h => hend st _ w'' h h2) a.defers w' h1.1) (fun id st a w' h1 h2 => by cases h2) (fun st a w' h1 h2 => leaves_end (fun w'' h => hend st _ w'' h h2) a.defers w' h1.1)

/-! ### Functions that leave the objects as they are -/

theorem outK_nat {σ τ : Type} (g : (o : Spec) → o.D → σ) (k : σ → Option τ) : ∀ (outs : List Spec) (y : OutD outs), (outK outs y fun o d => k (g o d)) = (outK outs y fun o d => some (g o d)).bind k
  | [], y => nomatch y
  | [a], y => rfl
  | a :: b :: r, .inl d => rfl
  | a :: b :: r, .inr d => outK_nat g k (b :: r) d

theorem outK_congr {τ : Type} {f g : (o : Spec) → o.D → Option τ} : ∀ (outs : List Spec) (y : OutD outs), (∀ o ∈ outs, ∀ d, f o d = g o d) → outK outs y f = outK outs y g
  | [], y, _ => nomatch y
  | [a], y, h => h a (by simp) y
  | a :: b :: r, .inl d, h => h a (by simp) d
  | a :: b :: r, .inr d, h => outK_congr (b :: r) d fun o ho => h o (List.mem_cons_of_mem _ ho)

theorem add_len {acc acc' : Acc} {i : Nat} {x : Whence} (h : acc.add i x = some acc') : acc'.src.length = acc.src.length := by
  unfold Acc.add at h
  split at h
  · split at h
    · simp only [Option.some.injEq] at h; subst h; simp
    · split at h
      · simp only [Option.some.injEq] at h; subst h; simp
      · cases h
  · split at h
    · split at h
      · simp only [Option.some.injEq] at h; subst h; rfl
      · cases h
    · cases h
  · cases h

theorem decL_len {objs : List OT} {ob : List AO} : ∀ (s : Sh) (l : List AV) (acc : Acc) (x : s.D × List AV × Acc), decL objs ob s l acc = some x → x.2.2.src.length = acc.src.length
  | .v T, l, acc, x, h => by
    match l with
    | [] => simp [decL] at h
    | y :: l =>
      simp only [decL, Option.bind_eq_some_iff, Option.some.injEq] at h
      obtain ⟨_, _, rfl⟩ := h; rfl
  | .ref i, l, acc, x, h => by
    match l with
    | [] => simp [decL] at h
    | y :: l =>
      simp only [decL] at h
      split at h
      · simp only [Option.bind_eq_some_iff, Option.some.injEq] at h
        obtain ⟨s, _, acc2, ha, rfl⟩ := h
        exact add_len ha
      · cases h
  | .part i, l, acc, x, h => by
    match l with
    | [] => simp [decL] at h
    | y :: l =>
      simp only [decL] at h
      split at h
      case h_2 => cases h
      split at h
      case h_2 => cases h
      split at h
      case h_2 => cases h
      simp only [Option.some.injEq] at h; subst h; rfl
  | .nilptr, l, acc, x, h => by
    match l with
    | [] => simp [decL] at h
    | y :: l =>
      simp only [decL] at h
      split at h
      · simp only [Option.some.injEq] at h; subst h; rfl
      · cases h
  | .nilfn, l, acc, x, h => by
    match l with
    | [] => simp [decL] at h
    | y :: l =>
      simp only [decL] at h
      split at h
      · simp only [Option.some.injEq] at h; subst h; rfl
      · cases h
  | .nilmap, l, acc, x, h => by
    match l with
    | [] => simp [decL] at h
    | y :: l =>
      simp only [decL] at h
      split at h
      · simp only [Option.some.injEq] at h; subst h; rfl
      · cases h
  | .nilifc, l, acc, x, h => by
    match l with
    | [] => simp [decL] at h
    | y :: l =>
      simp only [decL] at h
      split at h
      · simp only [Option.some.injEq] at h; subst h; rfl
      · cases h
  | .nilsl, l, acc, x, h => by
    match l with
    | [] => simp [decL] at h
    | y :: l =>
      simp only [decL] at h
      split at h
      · simp only [Option.some.injEq] at h; subst h; rfl
      · cases h
  | .fn f a b, l, acc, x, h => by
    match l with
    | [] => simp [decL] at h
    | y :: l =>
      simp only [decL] at h
      split at h
      · split at h
        · simp only [Option.bind_eq_some_iff] at h
          obtain ⟨⟨y1, r1, acc1⟩, h1, h⟩ := h
          split at h
          · simp only [Option.bind_eq_some_iff] at h
            obtain ⟨⟨z, r2, acc2⟩, h2, h⟩ := h
            split at h
            · simp only [Option.some.injEq] at h
              subst h
              exact (decL_len b _ _ _ h2).trans (decL_len a _ _ _ h1)
            · cases h
          · cases h
        · cases h
      · cases h
  | .fsl a, l, acc, x, h => by
    match l with
    | [] => simp [decL] at h
    | y :: l =>
      simp only [decL] at h
      split at h
      · simp only [Option.bind_eq_some_iff] at h
        obtain ⟨⟨y1, r1, acc1⟩, h1, h⟩ := h
        split at h
        · simp only [Option.some.injEq] at h
          subst h
          have hh := decL_len a _ _ _ h1
          exact hh
        · cases h
      · cases h
  | .nil, l, acc, x, h => by
    simp only [decL, Option.some.injEq] at h
    subst h; rfl
  | .cons a b, l, acc, x, h => by
    simp only [decL, Option.bind_eq_some_iff, Option.some.injEq] at h
    obtain ⟨⟨y1, r1, acc1⟩, h1, ⟨z, r2, acc2⟩, h2, rfl⟩ := h
    exact (decL_len b _ _ _ h2).trans (decL_len a _ _ _ h1)

theorem mkFun_quiet {ins : Spec} {outs : List Spec} {f : ins.D → Option (OutD outs)} (h1 : ins.objs.isEmpty = true) (h2 : outs.all (fun o => o.objs.isEmpty) = true) : FunQuiet (mkFun ins outs f) := by
  intro ρ args ob k
  unfold mkFun
  cases hr : ins.readIn args ob with
  | none => rfl
  | some x =>
    simp only [Option.bind_some]
    cases hj : jsOf x.2.src with
    | none => rfl
    | some js =>
      simp only [Option.bind_some]
      have hjs : js = [] := by
        obtain ⟨d, fin⟩ := x
        have hs := jsOf_spec hj
        have hi0 : ins.objs = [] := by simpa using h1
        have hlen : fin.src.length = 0 := by
          unfold Spec.readIn Spec.read at hr
          simp only [Option.bind_eq_some_iff] at hr
          obtain ⟨⟨y1, r1, acc1⟩, e1, e2⟩ := hr
          have e3 := decL_len _ _ _ _ e1
          simp only [List.length_replicate] at e3
          split at e2
          · simp only [Option.bind_eq_some_iff] at e2
            obtain ⟨⟨y2, acc2⟩, e4, e5⟩ := e2
            have e6 : acc2 = acc1 := by
              have : ∀ (l : List OT), l = [] → ∀ (i : Nat) (q : objsD l × Acc), decOs ins.objs ob l i acc1 = some q → q.2 = acc1 := by
                intro l hl i q hq
                subst hl
                simp only [decOs, Option.some.injEq] at hq
                subst hq; rfl
              exact this _ hi0 _ _ e4
            split at e5
            · simp only [Option.some.injEq, Prod.mk.injEq] at e5
              rw [← e5.2, e6, e3, hi0]; rfl
            · cases e5
          · cases e2
        have : js.length = 0 := by rw [← hlen, hs, List.length_map]
        exact List.length_eq_zero_iff.1 this
      subst hjs
      split
      · cases hf : f x.1 with
        | none => rfl
        | some y =>
          simp only [Option.bind_some]
          have e1 : (outK outs y fun o d => k (encL o.objs (newIdx [] ob.length) o.vs (o.vs_ d)) (setAll ob [] (encOs o.objs (newIdx [] ob.length) o.objs (o.objs_ d)))) = outK outs y fun o d => k (encL o.objs (newIdx [] ob.length) o.vs (o.vs_ d)) ob := by
            refine outK_congr outs y fun o ho d => ?_
            have ho0 : o.objs = [] := by
              have := List.all_eq_true.1 h2 o ho
              simpa using this
            have : encOs o.objs (newIdx [] ob.length) o.objs (o.objs_ d) = [] := List.length_eq_zero_iff.1 (by rw [encOs_length, ho0]; rfl)
            rw [this]
            simp [setAll]
          rw [e1]
          exact outK_nat (fun o d => encL o.objs (newIdx [] ob.length) o.vs (o.vs_ d)) (fun a => k a ob) outs y
      · rfl

/-! ### An annotation is in order -/

def OA.callees : OA → List Callee'
  | .call l => l
  | .callq l => l
  | .frz _ h => h.callees
  | .nn _ h => h.callees
  | _ => []

def OA.quiets : OA → List Callee'
  | .callq l => l
  | .frz _ h => h.quiets
  | .nn _ h => h.quiets
  | _ => []

def OA.eqTs : OA → List Nat
  | .eqs t => [t]
  | .frz _ h => h.eqTs
  | .nn _ h => h.eqTs
  | _ => []

def hsCallees : List OA → List Callee'
  | [] => []
  | .std :: r => hsCallees r
  | h :: r => h.callees ++ hsCallees r

def hsQuiets : List OA → List Callee'
  | [] => []
  | .std :: r => hsQuiets r
  | h :: r => h.quiets ++ hsQuiets r

def hsEqs : List OA → List Nat
  | [] => []
  | .std :: r => hsEqs r
  | h :: r => h.eqTs ++ hsEqs r

theorem hsCallees_mem : ∀ (hs : List OA) (h : OA) (c : Callee'), h ∈ hs → c ∈ h.callees → c ∈ hsCallees hs
  | [], h, c, hm, _ => by cases hm
  | q :: r, h, c, hm, hc => by
    have e : hsCallees (q :: r) = q.callees ++ hsCallees r := by cases q <;> rfl
    rw [e]
    rcases List.mem_cons.1 hm with rfl | hm
    · exact List.mem_append_left _ hc
    · exact List.mem_append_right _ (hsCallees_mem r h c hm hc)

theorem hsQuiets_mem : ∀ (hs : List OA) (h : OA) (c : Callee'), h ∈ hs → c ∈ h.quiets → c ∈ hsQuiets hs
  | [], h, c, hm, _ => by cases hm
  | q :: r, h, c, hm, hc => by
    have e : hsQuiets (q :: r) = q.quiets ++ hsQuiets r := by cases q <;> rfl
    rw [e]
    rcases List.mem_cons.1 hm with rfl | hm
    · exact List.mem_append_left _ hc
    · exact List.mem_append_right _ (hsQuiets_mem r h c hm hc)

theorem hsEqs_mem : ∀ (hs : List OA) (h : OA) (t : Nat), h ∈ hs → t ∈ h.eqTs → t ∈ hsEqs hs
  | [], h, c, hm, _ => by cases hm
  | q :: r, h, c, hm, hc => by
    have e : hsEqs (q :: r) = q.eqTs ++ hsEqs r := by cases q <;> rfl
    rw [e]
    rcases List.mem_cons.1 hm with rfl | hm
    · exact List.mem_append_left _ hc
    · exact List.mem_append_right _ (hsEqs_mem r h c hm hc)

theorem oa_ok : ∀ (h : OA), (∀ c ∈ h.callees, c.ok P) → (∀ c ∈ h.quiets, FunQuiet c.F) → (∀ t ∈ h.eqTs, eqTypeB P t = true) → OAok P h ∧ h.nat
  | .std, _, _, _ => ⟨by simp [OAok], trivial⟩
  | .inl _, _, _, _ => ⟨by simp [OAok], trivial⟩
  | .obj _, _, _, _ => ⟨by simp [OAok], trivial⟩
  | .mp _ _, _, _, _ => ⟨by simp [OAok], trivial⟩
  | .eqs t, _, _, h => ⟨by rw [OAok]; exact h t (by simp [OA.eqTs]), trivial⟩
  | .call l, h, _, _ => ⟨by rw [OAok]; exact h, trivial⟩
  | .callq l, h, h2, _ => ⟨by rw [OAok]; exact fun c hc => ⟨h c hc, h2 c hc⟩, h2⟩
  | .frz js q, h, h2, h3 => ⟨by rw [OAok]; exact (oa_ok q h h2 h3).1, trivial⟩
  | .nn js q, h, h2, h3 => ⟨by rw [OAok]; exact (oa_ok q h h2 h3).1, trivial⟩

theorem hs_ok {hs : List OA} (h1 : ∀ c ∈ hsCallees hs, c.ok P) (h2 : ∀ c ∈ hsQuiets hs, FunQuiet c.F) (h3 : ∀ t ∈ hsEqs hs, eqTypeB P t = true) : ∀ h ∈ hs, OAok P h ∧ h.nat := fun h hh =>
  oa_ok h (fun c hc => h1 c (hsCallees_mem hs h c hh hc)) (fun c hc => h2 c (hsQuiets_mem hs h c hh hc)) (fun t ht => h3 t (hsEqs_mem hs h t hh ht))

/-! #### Short forms, for printed texts -/

def bodyOf (f : Func) : Code :=
  match f.body with
  | some c => c
  | none => .skip

def mkC (fid : Nat) (ins : Spec) (outs : List Spec) (f : ins.D → Option (OutD outs)) : Callee' := ⟨fid, mkFits ins outs, mkFun ins outs f, mkFun_nat _ _ _⟩

theorem snd (tt : TTok P TT) (hmix : P.follows .mixedOrders = true) {fid : Nat} {fn : Func} {x : Ann} {ins : Spec} {outs : List Spec} {N : Nat} {X : ins.D → Option (OutD outs)} (he : absFn TT N ins outs (bodyOf fn) x = X) (hx : x.ok P ins.objs.length N) (hf : P.funcs[fid]? = some fn)
    (hb : fn.body = some (bodyOf fn)) (hN : fn.ntmps = N)
    (hres : outs.all (fun o => decide (fn.results.size = o.slots.length) && (List.range o.slots.length).all fun i => match fn.results[i]?, o.slots[i]? with | some (.tmp t), some s => t == s | _, _ => false) = true)
    (hrs : outs.all (fun o => o.ok ins.objs.length N) = true) (hp : ins.vs.len ≤ N) (hn : fn.name ≠ "runtime.NumGoroutine") : (mkC fid ins outs X).ok P := by
  refine ⟨?_, fn, bodyOf fn, hf, hb, hn⟩
  subst he
  exact fn_sound tt hmix hf hb hN hres hrs hx hp

def Ann.callees : Ann → List Callee'
  | .std => []
  | .reg hs => hsCallees hs
  | .drw hs => hsCallees hs
  | .seq a b => a.callees ++ b.callees
  | .join _ a b => a.callees ++ b.callees
  | .cond a b => a.callees ++ b.callees
  | .block a => a.callees
  | .loop _ _ a => a.callees
  | .unroll a b => a.callees ++ b.callees
  | .chunk _ _ _ _ _ a b => a.callees ++ b.callees

def Ann.quiets : Ann → List Callee'
  | .std => []
  | .reg hs => hsQuiets hs
  | .drw hs => hsQuiets hs
  | .seq a b => a.quiets ++ b.quiets
  | .join _ a b => a.quiets ++ b.quiets
  | .cond a b => a.quiets ++ b.quiets
  | .block a => a.quiets
  | .loop _ _ a => a.quiets
  | .unroll a b => a.quiets ++ b.quiets
  | .chunk _ _ _ _ _ a b => a.quiets ++ b.quiets

def Ann.eqTs : Ann → List Nat
  | .std => []
  | .reg hs => hsEqs hs
  | .drw hs => hsEqs hs
  | .seq a b => a.eqTs ++ b.eqTs
  | .join _ a b => a.eqTs ++ b.eqTs
  | .cond a b => a.eqTs ++ b.eqTs
  | .block a => a.eqTs
  | .loop _ _ a => a.eqTs
  | .unroll a b => a.eqTs ++ b.eqTs
  | .chunk _ _ _ _ _ a b => a.eqTs ++ b.eqTs

def Ann.specsOk (np N : Nat) : Ann → Bool
  | .std => true
  | .reg _ => true
  | .drw _ => true
  | .seq a b => a.specsOk np N && b.specsOk np N
  | .join alts a b => alts.all (fun x => x.2.ok np N) && (a.specsOk np N && b.specsOk np N)
  | .cond a b => a.specsOk np N && b.specsOk np N
  | .block a => a.specsOk np N
  | .loop h alts a => h.ok np N && (alts.all (fun x => x.2.ok np N) && a.specsOk np N)
  | .unroll a b => a.specsOk np N && b.specsOk np N
  | .chunk _ _ _ _ _ _ _ => false

theorem ann_ok {np N : Nat} : ∀ {x : Ann}, x.specsOk np N = true → x.eqTs.all (eqTypeB P) = true → (∀ c ∈ x.callees, c.ok P) → (∀ c ∈ x.quiets, FunQuiet c.F) → x.ok P np N
  | .std, _, _, _, _ => trivial
  | .reg hs, _, h2, h3, h4 => fun q hq => (hs_ok h3 h4 (fun t ht => List.all_eq_true.1 h2 t ht) q hq).1
  | .drw hs, _, h2, h3, h4 => hs_ok h3 h4 (fun t ht => List.all_eq_true.1 h2 t ht)
  | .seq a b, h1, h2, h3, h4 => by
    simp only [Ann.specsOk, Bool.and_eq_true] at h1
    simp only [Ann.eqTs, List.all_append, Bool.and_eq_true] at h2
    exact ⟨ann_ok h1.1 h2.1 (fun c hc => h3 c (List.mem_append_left _ hc)) (fun c hc => h4 c (List.mem_append_left _ hc)), ann_ok h1.2 h2.2 (fun c hc => h3 c (List.mem_append_right _ hc)) (fun c hc => h4 c (List.mem_append_right _ hc))⟩
  | .join alts a b, h1, h2, h3, h4 => by
    simp only [Ann.specsOk, Bool.and_eq_true] at h1
    simp only [Ann.eqTs, List.all_append, Bool.and_eq_true] at h2
    exact ⟨h1.1, ann_ok h1.2.1 h2.1 (fun c hc => h3 c (List.mem_append_left _ hc)) (fun c hc => h4 c (List.mem_append_left _ hc)), ann_ok h1.2.2 h2.2 (fun c hc => h3 c (List.mem_append_right _ hc)) (fun c hc => h4 c (List.mem_append_right _ hc))⟩
  | .cond a b, h1, h2, h3, h4 => by
    simp only [Ann.specsOk, Bool.and_eq_true] at h1
    simp only [Ann.eqTs, List.all_append, Bool.and_eq_true] at h2
    exact ⟨ann_ok h1.1 h2.1 (fun c hc => h3 c (List.mem_append_left _ hc)) (fun c hc => h4 c (List.mem_append_left _ hc)), ann_ok h1.2 h2.2 (fun c hc => h3 c (List.mem_append_right _ hc)) (fun c hc => h4 c (List.mem_append_right _ hc))⟩
  | .block a, h1, h2, h3, h4 => ann_ok (x := a) h1 h2 h3 h4
  | .loop hd alts a, h1, h2, h3, h4 => by
    simp only [Ann.specsOk, Bool.and_eq_true] at h1
    exact ⟨h1.1, h1.2.1, ann_ok h1.2.2 h2 h3 h4⟩
  | .unroll a b, h1, h2, h3, h4 => by
    simp only [Ann.specsOk, Bool.and_eq_true] at h1
    simp only [Ann.eqTs, List.all_append, Bool.and_eq_true] at h2
    exact ⟨ann_ok h1.1 h2.1 (fun c hc => h3 c (List.mem_append_left _ hc)) (fun c hc => h4 c (List.mem_append_left _ hc)), ann_ok h1.2 h2.2 (fun c hc => h3 c (List.mem_append_right _ hc)) (fun c hc => h4 c (List.mem_append_right _ hc))⟩
  | .chunk _ _ _ _ _ _ _, h1, _, _, _ => by cases h1

/-- The function behind slices.Chunk, at these types. -/
def ChunkFn (P : Program) (c : Nat × Nat × Nat) : Prop := ∃ fn tY tB, P.funcs[c.1]? = some fn ∧ fn.body = some (chunkBody c.2.1 c.2.2 tY tB) ∧ fn.ntmps = 31 ∧ fn.results = #[] ∧ fn.name ≠ "runtime.NumGoroutine"

def Ann.chunkFs : Ann → List (Nat × Nat × Nat)
  | .seq a b => a.chunkFs ++ b.chunkFs
  | .join _ a b => a.chunkFs ++ b.chunkFs
  | .cond a b => a.chunkFs ++ b.chunkFs
  | .block a => a.chunkFs
  | .loop _ _ a => a.chunkFs
  | .unroll a b => a.chunkFs ++ b.chunkFs
  | .chunk fid tS tI _ _ _ _ => [(fid, tS, tI)]
  | _ => []

def Ann.specsOkR (np N : Nat) : Ann → Bool
  | .std => true
  | .reg _ => true
  | .drw _ => true
  | .seq a b => a.specsOkR np N && b.specsOkR np N
  | .join alts a b => alts.all (fun x => x.2.ok np N) && (a.specsOkR np N && b.specsOkR np N)
  | .cond a b => a.specsOkR np N && b.specsOkR np N
  | .block a => a.specsOkR np N
  | .loop h alts a => h.ok np N && (alts.all (fun x => x.2.ok np N) && a.specsOkR np N)
  | .unroll a b => a.specsOkR np N && b.specsOkR np N
  | .chunk _ _ _ _ h a b => h.ok np N && ((a.flat && b.flat) && (a.specsOk h.objs.length N && b.specsOk h.objs.length N))

/-- As 'ann_ok', where ranges over slices.Chunk's function occur. -/
theorem ann_okR {np N : Nat} : ∀ {x : Ann}, x.specsOkR np N = true → x.eqTs.all (eqTypeB P) = true → (∀ c ∈ x.callees, c.ok P) → (∀ c ∈ x.quiets, FunQuiet c.F) → (∀ c ∈ x.chunkFs, ChunkFn P c) → x.ok P np N
  | .std, _, _, _, _, _ => trivial
  | .reg hs, _, h2, h3, h4, _ => fun q hq => (hs_ok h3 h4 (fun t ht => List.all_eq_true.1 h2 t ht) q hq).1
  | .drw hs, _, h2, h3, h4, _ => hs_ok h3 h4 (fun t ht => List.all_eq_true.1 h2 t ht)
  | .seq a b, h1, h2, h3, h4, h5 => by
    simp only [Ann.specsOkR, Bool.and_eq_true] at h1
    simp only [Ann.eqTs, List.all_append, Bool.and_eq_true] at h2
    exact ⟨ann_okR h1.1 h2.1 (fun c hc => h3 c (List.mem_append_left _ hc)) (fun c hc => h4 c (List.mem_append_left _ hc)) (fun c hc => h5 c (List.mem_append_left _ hc)), ann_okR h1.2 h2.2 (fun c hc => h3 c (List.mem_append_right _ hc)) (fun c hc => h4 c (List.mem_append_right _ hc)) (fun c hc => h5 c (List.mem_append_right _ hc))⟩
  | .join alts a b, h1, h2, h3, h4, h5 => by
    simp only [Ann.specsOkR, Bool.and_eq_true] at h1
    simp only [Ann.eqTs, List.all_append, Bool.and_eq_true] at h2
    exact ⟨h1.1, ann_okR h1.2.1 h2.1 (fun c hc => h3 c (List.mem_append_left _ hc)) (fun c hc => h4 c (List.mem_append_left _ hc)) (fun c hc => h5 c (List.mem_append_left _ hc)), ann_okR h1.2.2 h2.2 (fun c hc => h3 c (List.mem_append_right _ hc)) (fun c hc => h4 c (List.mem_append_right _ hc)) (fun c hc => h5 c (List.mem_append_right _ hc))⟩
  | .cond a b, h1, h2, h3, h4, h5 => by
    simp only [Ann.specsOkR, Bool.and_eq_true] at h1
    simp only [Ann.eqTs, List.all_append, Bool.and_eq_true] at h2
    exact ⟨ann_okR h1.1 h2.1 (fun c hc => h3 c (List.mem_append_left _ hc)) (fun c hc => h4 c (List.mem_append_left _ hc)) (fun c hc => h5 c (List.mem_append_left _ hc)), ann_okR h1.2 h2.2 (fun c hc => h3 c (List.mem_append_right _ hc)) (fun c hc => h4 c (List.mem_append_right _ hc)) (fun c hc => h5 c (List.mem_append_right _ hc))⟩
  | .block a, h1, h2, h3, h4, h5 => ann_okR (x := a) h1 h2 h3 h4 h5
  | .loop hd alts a, h1, h2, h3, h4, h5 => by
    simp only [Ann.specsOkR, Bool.and_eq_true] at h1
    exact ⟨h1.1, h1.2.1, ann_okR h1.2.2 h2 h3 h4 h5⟩
  | .unroll a b, h1, h2, h3, h4, h5 => by
    simp only [Ann.specsOkR, Bool.and_eq_true] at h1
    simp only [Ann.eqTs, List.all_append, Bool.and_eq_true] at h2
    exact ⟨ann_okR h1.1 h2.1 (fun c hc => h3 c (List.mem_append_left _ hc)) (fun c hc => h4 c (List.mem_append_left _ hc)) (fun c hc => h5 c (List.mem_append_left _ hc)), ann_okR h1.2 h2.2 (fun c hc => h3 c (List.mem_append_right _ hc)) (fun c hc => h4 c (List.mem_append_right _ hc)) (fun c hc => h5 c (List.mem_append_right _ hc))⟩
  | .chunk fid tS tI T h a b, h1, h2, h3, h4, h5 => by
    simp only [Ann.specsOkR, Bool.and_eq_true] at h1
    simp only [Ann.eqTs, List.all_append, Bool.and_eq_true] at h2
    exact ⟨h1.1, h5 _ List.mem_cons_self, h1.2.1, ann_ok h1.2.2.1 h2.1 (fun c hc => h3 c (List.mem_append_left _ hc)) (fun c hc => h4 c (List.mem_append_left _ hc)), ann_ok h1.2.2.2 h2.2 (fun c hc => h3 c (List.mem_append_right _ hc)) (fun c hc => h4 c (List.mem_append_right _ hc))⟩

theorem ls_nil {α : Type} {Q : α → Prop} : ∀ c ∈ ([] : List α), Q c := fun _ h => by cases h
theorem ls_cons {α : Type} {Q : α → Prop} {c : α} {l : List α} (h1 : Q c) (t : ∀ x ∈ l, Q x) : ∀ x ∈ c :: l, Q x := fun x hx => by
  rcases List.mem_cons.1 hx with rfl | hx
  · exact h1
  · exact t x hx

theorem cs_nil {Q : Callee' → Prop} : ∀ c ∈ ([] : List Callee'), Q c := fun _ h => by cases h
theorem cs_cons {Q : Callee' → Prop} {c : Callee'} {l : List Callee'} (h1 : Q c) (t : ∀ x ∈ l, Q x) : ∀ x ∈ c :: l, Q x := fun x hx => by
  rcases List.mem_cons.1 hx with rfl | hx
  · exact h1
  · exact t x hx

end
end Go.Proofs.YtlbammfnkphajaaGreatDoor.Abs
