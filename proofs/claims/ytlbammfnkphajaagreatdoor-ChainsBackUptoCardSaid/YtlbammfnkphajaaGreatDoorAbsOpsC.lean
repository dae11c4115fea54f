/- Loads, stores, addresses, slices, lengths. -/
import Derived.Test.YtlbammfnkphajaaGreatDoorAbsOpsB
namespace Go.Proofs.YtlbammfnkphajaaGreatDoor.Abs
open Go

section
variable {F : Nat → Prop} {w : World} {G : Gs} {ob : List AO} {P : Program} {TT : Nat → TI} {ρ : Type} {r : ρ}

theorem Inv.obj (inv : Inv F w G ob) {j : Nat} (hj : j < ob.length) (h : ob.getD j .dead ≠ .dead) : ∃ g, G j = some g ∧ ObjRep (avoid F G) w ob.length G (ob.getD j .dead) g := by
  cases hg : G j with
  | none => exact absurd (inv.there j hj hg) h
  | some g => exact ⟨g, rfl, inv.live j hj g hg⟩

theorem mul_lt_cap {i cap size j : Nat} (hi : i < cap) (hj : j < size) : i * size + j < cap * size := by
  have : (i + 1) * size ≤ cap * size := Nat.mul_le_mul_right _ hi
  rw [Nat.succ_mul] at this
  omega

/-- An element of an array object, cell by cell. -/
theorem arr_elem {A : Nat → Prop} {n : Nat} {T : Ty} {xs : List T.D} {g : Gh} (h : ObjRep A w n G (.arr T xs) g) {b i : Nat} (hb : g.blk = some b) (hi : i < xs.length) :
    ∃ C : Nat → Value, (∀ j, j < T.size → w.cell? ⟨b, g.base + i * T.size + j, none⟩ = some (C (g.base + i * T.size + j))) ∧
      (∀ j, j < T.size → w.frozen? ⟨b, g.base + i * T.size + j, none⟩ = false) ∧
      ∀ j, j < T.size → Rep A w n G ((cellsAV T (xs.getD i T.dflt)).getD j .dead) (C (g.base + i * T.size + j)) := by
  obtain ⟨h1, h2, h3, h4, h5, h6⟩ := h
  obtain ⟨C, hrow, hrep⟩ := h6 b hb
  have hlt : ∀ j, j < T.size → g.base + i * T.size + j < g.base + g.cap * g.size := fun j hj => by
    have := mul_lt_cap (i := i) (cap := g.cap) (size := T.size) (j := j) (by omega) hj
    rw [h1]; omega
  exact ⟨C, fun j hj => hrow.cells _ (hlt j hj), fun j hj => hrow.free _ (hlt j hj), fun j hj => hrep i j hi hj⟩

theorem loadK_sound (tt : TTok P TT) (inv : Inv F w G ob) {t : Nat} {p : AV} {a : Value} {k : AV → Option ρ} (e : loadK TT t p ob k = some r) (hp : Rep (avoid F G) w ob.length G p a) :
    ∃ v z, k v = some r ∧ Rep (avoid F G) w ob.length G v z ∧ (Instr.loadAt t a).run P w = .ok z w := by
  unfold loadK at e
  split at e
  · cases hp
    rename_i T v sub b o cs hT hA hc hr
    exact loadCs_sound tt e (fun j hj => hc j (by rwa [cellsAV_length] at hj)) (fun j hj => hr j (by rwa [cellsAV_length] at hj))
  · cases hp
    rename_i j i sub hj hv h
    split at e
    · rename_i T xs ho
      obtain ⟨g, hg, hobj⟩ := inv.obj hj (by rw [ho]; simp)
      rw [ho] at hobj
      obtain ⟨hi, b, hb, rfl⟩ := h g hg
      obtain ⟨C, h1, _, h3⟩ := arr_elem hobj hb (hobj.2.2.1 ▸ hi)
      have := loadCs_sound (A := avoid F G) (n := ob.length) (G := G) (w := w) (c := fun j => C (g.base + i * T.size + j)) (b := b) (o := g.base + i * T.size) tt e
        (fun j hj => h1 j (by rwa [cellsAV_length] at hj)) (fun j hj => h3 j (by rwa [cellsAV_length] at hj))
      rw [hobj.1]; exact this
    · rename_i cs ho
      obtain ⟨g, hg, hobj⟩ := inv.obj hj (by rw [ho]; simp)
      rw [ho] at hobj
      obtain ⟨hi, b, hb, rfl⟩ := h g hg
      obtain ⟨h1, h2, b', hb', C, hrow, hrep⟩ := hobj
      rw [hb] at hb'; cases hb'
      have h0 : i = 0 := by omega
      subst h0
      have := loadCs_sound (A := avoid F G) (n := ob.length) (G := G) (w := w) (c := fun j => C (g.base + j)) (b := b) (o := g.base) tt e
        (fun j hj => hrow.cells _ (by omega)) hrep
      simpa using this
    · cases e
  · cases hp
    rename_i v b o c hA hc hr
    have h0 : ∀ j, j < [v].length → j = 0 := fun j hj => by simpa using hj
    exact loadCs_sound (A := avoid F G) (n := ob.length) (G := G) (w := w) (c := fun _ => c) (b := b) (o := o) tt e
      (fun j hj => by rw [h0 j hj]; exact hc) (fun j hj => by rw [h0 j hj]; exact hr)
  · cases e

/-! #### Stores -/

theorem ofCells_rep {A : Nat → Prop} {n : Nat} : ∀ (T : Ty) (l : List AV) (y : T.D) (rest : List AV) (c : Nat → Value), ofCells T l = some (y, rest) →
    (∀ j, j < T.size → Rep A w n G (l.getD j .dead) (c j)) →
    rest = l.drop T.size ∧ T.size ≤ l.length ∧ ∀ j, j < T.size → Rep A w n G ((cellsAV T y).getD j .dead) (c j)
  | .int k, l, y, rest, c, h, hr => by
    match l with
    | [] => cases h
    | x :: l =>
      cases x <;> simp only [ofCells] at h <;> try cases h
      rename_i k' m
      split at h
      · rename_i hk
        subst hk
        simp only [Option.some.injEq, Prod.mk.injEq] at h
        obtain ⟨rfl, rfl⟩ := h
        exact ⟨rfl, by simp [Ty.size], fun j hj => by
          have h0 : j = 0 := by simpa [Ty.size] using hj
          subst h0; exact hr 0 hj⟩
      · cases h
  | .bool, l, y, rest, c, h, hr => by
    match l with
    | [] => cases h
    | x :: l =>
      cases x <;> simp only [ofCells] at h <;> try cases h
      exact ⟨rfl, by simp [Ty.size], fun j hj => by
          have h0 : j = 0 := by simpa [Ty.size] using hj
          subst h0; exact hr 0 hj⟩
  | .str, l, y, rest, c, h, hr => by
    match l with
    | [] => cases h
    | x :: l =>
      cases x <;> simp only [ofCells] at h <;> try cases h
      exact ⟨rfl, by simp [Ty.size], fun j hj => by
          have h0 : j = 0 := by simpa [Ty.size] using hj
          subst h0; exact hr 0 hj⟩
  | .sl e, l, y, rest, c, h, hr => by
    match l with
    | [] => cases h
    | x :: l =>
      cases x <;> simp only [ofCells] at h <;> try cases h
      · rename_i e' xs
        split at h
        · rename_i he
          subst he
          simp only [Option.some.injEq, Prod.mk.injEq] at h
          obtain ⟨rfl, rfl⟩ := h
          exact ⟨rfl, by simp [Ty.size], fun j hj => by
          have h0 : j = 0 := by simpa [Ty.size] using hj
          subst h0; exact hr 0 hj⟩
        · cases h
      · rename_i e' xs
        split at h
        · rename_i he
          subst he
          simp only [Option.some.injEq, Prod.mk.injEq] at h
          obtain ⟨rfl, rfl⟩ := h
          exact ⟨rfl, by simp [Ty.size], fun j hj => by
            have h0 : j = 0 := by simpa [Ty.size] using hj
            subst h0; exact (hr 0 hj).fgt⟩
        · cases h
      · refine ⟨rfl, by simp [Ty.size], fun j hj => ?_⟩
        have h0 : j = 0 := by simp [Ty.size] at hj; exact hj
        subst h0
        have := hr 0 hj
        simp only [List.getD_cons_zero] at this
        generalize c 0 = v at this
        cases this
        exact .islE _ _ _
  | .pair a b, l, y, rest, c, h, hr => by
    simp only [ofCells, Option.bind_eq_some_iff] at h
    obtain ⟨⟨y1, r1⟩, h1, ⟨y2, r2⟩, h2, h3⟩ := h
    simp only [Option.some.injEq, Prod.mk.injEq] at h3
    obtain ⟨rfl, rfl⟩ := h3
    obtain ⟨e1, e2, e3⟩ := ofCells_rep a l y1 r1 c h1 (fun j hj => hr j (by simp [Ty.size]; omega))
    subst e1
    obtain ⟨f1, f2, f3⟩ := ofCells_rep b _ y2 r2 (fun j => c (a.size + j)) h2 (fun j hj => by
      have := hr (a.size + j) (by simp [Ty.size]; omega)
      simpa [List.getD] using this)
    refine ⟨by rw [f1, List.drop_drop]; rfl, by simp [Ty.size] at f2 ⊢; omega, fun j hj => ?_⟩
    simp only [Ty.size] at hj
    by_cases hlt : j < a.size
    · have := e3 j hlt
      have e4 : (cellsAV (.pair a b) (y1, y2)).getD j .dead = (cellsAV a y1).getD j .dead := by
        have := cellsAV_length a y1
        simp [cellsAV, List.getD, List.getElem?_append, this, hlt]
      rw [e4]; exact this
    · have := f3 (j - a.size) (by omega)
      have e4 : (cellsAV (.pair a b) (y1, y2)).getD j .dead = (cellsAV b y2).getD (j - a.size) .dead := by
        have := cellsAV_length a y1
        simp [cellsAV, List.getD, List.getElem?_append, this, hlt]
      rw [e4]
      rwa [show a.size + (j - a.size) = j by omega] at this
  | .st a, l, y, rest, c, h, hr => ofCells_rep a l y rest c h hr
  | .unit, l, y, rest, c, h, hr => by
    simp only [ofCells, Option.some.injEq, Prod.mk.injEq] at h
    obtain ⟨_, rfl⟩ := h
    exact ⟨rfl, Nat.zero_le _, fun j hj => by cases hj⟩
  | .ptr e, l, y, rest, c, h, hr => by
    match l with
    | [] => cases h
    | x :: l =>
      cases x
      case iptr e' v sub =>
        cases sub with
        | succ => simp [ofCells] at h
        | zero =>
          simp only [ofCells] at h
          split at h
          · rename_i he
            subst he
            simp only [Option.some.injEq, Prod.mk.injEq] at h
            obtain ⟨rfl, rfl⟩ := h
            exact ⟨rfl, by simp [Ty.size], fun j hj => by
              have h0 : j = 0 := by simpa [Ty.size] using hj
              subst h0; exact hr 0 hj⟩
          · cases h
      all_goals (simp [ofCells] at h)
  | .map K V, l, y, rest, c, h, hr => by
    match l with
    | [] => cases h
    | x :: l =>
      cases x <;> simp only [ofCells] at h <;> try cases h
      · rename_i K' V' es
        split at h
        · rename_i he
          obtain ⟨rfl, rfl⟩ := he
          simp only [Option.some.injEq, Prod.mk.injEq] at h
          obtain ⟨rfl, rfl⟩ := h
          exact ⟨rfl, by simp [Ty.size], fun j hj => by
          have h0 : j = 0 := by simpa [Ty.size] using hj
          subst h0; exact hr 0 hj⟩
        · cases h
      · refine ⟨rfl, by simp [Ty.size], fun j hj => ?_⟩
        have h0 : j = 0 := by simp [Ty.size] at hj; exact hj
        subst h0
        have := hr 0 hj
        simp only [List.getD_cons_zero] at this
        generalize c 0 = v at this
        cases this
        exact .imapE _ _
  | .nsl e, l, y, rest, c, h, hr => by
    match l with
    | [] => cases h
    | x :: l =>
      cases x <;> simp only [ofCells] at h <;> try cases h
      · rename_i e' xs
        split at h
        · rename_i he
          subst he
          split at h
          · cases h
          · rename_i hne
            simp only [Option.some.injEq, Prod.mk.injEq] at h
            obtain ⟨rfl, rfl⟩ := h
            exact ⟨rfl, by simp [Ty.size], fun j hj => by
              have h0 : j = 0 := by simpa [Ty.size] using hj
              subst h0; exact .nsl e' xs _ (fun (q : xs = []) => hne (by rw [q]; rfl)) (hr 0 hj)⟩
        · cases h
      · rename_i e' xs
        split at h
        · rename_i he
          subst he
          simp only [Option.some.injEq, Prod.mk.injEq] at h
          obtain ⟨rfl, rfl⟩ := h
          exact ⟨rfl, by simp [Ty.size], fun j hj => by
            have h0 : j = 0 := by simpa [Ty.size] using hj
            subst h0; exact hr 0 hj⟩
        · cases h
      · refine ⟨rfl, by simp [Ty.size], fun j hj => ?_⟩
        have h0 : j = 0 := by simp [Ty.size] at hj; exact hj
        subst h0
        have := hr 0 hj
        simp only [List.getD_cons_zero] at this
        generalize c 0 = v at this
        cases this
        exact .nslE _

theorem cell_one {A : Nat → Prop} {n : Nat} {x : AV} {v : Value} (h : Rep A w n G x v) (hk : cellOk x = true) : v.oneCell' = true ∧ v.cells = #[v] := by
  cases h <;> first
    | exact ⟨rfl, rfl⟩
    | (rename_i hv _; obtain ⟨_, _, _, rfl⟩ := hv; exact ⟨rfl, rfl⟩)
    | (rename_i hv _; obtain ⟨_, _, rfl⟩ := hv; exact ⟨rfl, rfl⟩)
    | (rename_i hv _; obtain ⟨_, rfl⟩ := hv; exact ⟨rfl, rfl⟩)
    | (rename_i hq; cases hq <;> exact ⟨rfl, rfl⟩)
    | (cases hk)

theorem cells_rep {A : Nat → Prop} {n : Nat} {x : AV} {v : Value} (h : Rep A w n G x v) (hk : x.cells.all cellOk = true) :
    x.cells.length = v.cells.size ∧ (∀ i, i < x.cells.length → Rep A w n G (x.cells.getD i .dead) (v.cells.getD i undef)) ∧ ∀ u ∈ v.cells.toList, u.oneCell' = true := by
  by_cases ha : ∃ cs, x = .agg cs
  · obtain ⟨cs, rfl⟩ := ha
    cases h
    rename_i vs hl hr
    refine ⟨hl, hr, fun u hu => ?_⟩
    obtain ⟨i, hi, rfl⟩ := List.getElem_of_mem hu
    have hi1 : i < vs.size := by simpa [Value.cells] using hi
    have hi2 : i < cs.length := hl ▸ hi1
    have h1 := hr i hi2
    have h2 : cellOk (cs.getD i .dead) = true := by
      have := List.all_eq_true.1 hk cs[i] (List.getElem_mem hi2)
      simpa [List.getD, hi2] using this
    have := (cell_one h1 h2).1
    simpa [Array.getD, hi1, Value.cells] using this
  · have hx : x.cells = [x] := by cases x <;> first | rfl | exact absurd ⟨_, rfl⟩ ha
    rw [hx] at hk ⊢
    have h2 := cell_one h (by simpa using hk)
    rw [h2.2]
    refine ⟨rfl, fun i hi => ?_, fun u hu => ?_⟩
    · have h0 : i = 0 := by simpa using hi
      subst h0
      simpa using h
    · have : u = v := by simpa using hu
      subst this; exact h2.1

theorem storeK_sound (tt : TTok P TT) (inv : Inv F w G ob) {t : Nat} {p x : AV} {a v : Value} {k : List AO → Option ρ} (e : storeK TT t p x ob k = some r)
    (hp : Rep (avoid F G) w ob.length G p a) (hx : Rep (avoid F G) w ob.length G x v) :
    ∃ ob' w', k ob' = some r ∧ ob'.length = ob.length ∧ Inv F w' G ob' ∧ Trans ob.length w G w' G ∧ (Instr.storeAt t a v).run P w = .ok () w' := by
  unfold storeK at e
  split at e
  · rename_i j i sub
    split at e
    · rename_i hcond
      obtain ⟨hk, hlen, hall⟩ := hcond
      have hk' := isOther_false hk
      cases hp
      rename_i hj hv h
      obtain ⟨hcl, hcr, hone⟩ := cells_rep hx hall
      have hrun : ∀ (b o : Nat), a = .pointer (some ⟨b, o, none⟩) → (∀ m, m < v.cells.toList.length → (w.cell? ⟨b, o + m, none⟩).isSome = true) →
          (∀ m, m < v.cells.toList.length → w.frozen? ⟨b, o + m, none⟩ = false) → (Instr.storeAt t a v).run P w = .ok () (w.setCells b o v.cells.toList) := by
        intro b o ha h1 h2
        subst ha
        have hs := run_storeCells_cells (P := P) b o v.cells.toList 0 w (by simpa using h1) (by simpa using h2) hone
        have hz : v.cells.size = (TT t).size := by omega
        have hsz := tt_size tt hk' w
        simp only [Nat.add_zero] at hs
        simp [Instr.storeAt, Instr.sureAddr, storeVar, hsz, hz, hs]
      split at e
      · rename_i T xs ho
        obtain ⟨g, hg, hobj⟩ := inv.obj hj (by rw [ho]; simp)
        rw [ho] at hobj
        obtain ⟨hi, b, hb, ha⟩ := h g hg
        by_cases hsub : sub + x.cells.length ≤ T.size
        · rw [if_pos hsub] at e
          simp only [Option.bind_eq_some_iff] at e
          obtain ⟨⟨y, rest⟩, hy, e⟩ := e
          have hobj' := hobj
          obtain ⟨h1, h2, h3, h4, h5, h6⟩ := hobj
          obtain ⟨C, hrow, hrep⟩ := h6 b hb
          have hi' : i < xs.length := h3 ▸ hi
          have hcap : i * T.size + T.size ≤ g.cap * g.size := by
            rw [h1]
            have : (i + 1) * T.size ≤ g.cap * T.size := Nat.mul_le_mul_right _ (by omega)
            rw [Nat.succ_mul] at this; exact this
          have hvl : v.cells.toList.length = x.cells.length := by simp [hcl]
          obtain ⟨C2, hset, hC1, hC2⟩ := hrow.set' (o := g.base + i * T.size + sub) (vs := v.cells.toList) (by rw [hvl]; omega)
          have ht : Trans ob.length w G (w.setCells b (g.base + i * T.size + sub) v.cells.toList) G := trans_setCells ⟨j, g, hg, hb⟩
          have hst := ht.stays (F := F) (Nat.le_refl _)
          refine ⟨_, _, e, by simp, inv.setObj hg hb ht (fun c hc => heap_setCells b _ _ w c hc) ?_, ht, hrun b _ (by rw [ha, h1]) ?_ ?_⟩
          · refine ⟨h1, h2, by simp [h3], by simpa using h4, h5, fun b' hb' => ?_⟩
            rw [hb] at hb'; cases hb'
            refine ⟨C2, hset, fun i' j' hi2 hj2 => ?_⟩
            have hi3 : i' < xs.length := by simpa using hi2
            by_cases hii : i' = i
            · subst hii
              have e1 : (xs.set i' y).getD i' T.dflt = y := by simp [List.getD, hi3]
              rw [e1]
              refine (ofCells_rep (w := w.setCells b (g.base + i' * T.size + sub) v.cells.toList) T _ y rest (fun m => C2 (g.base + i' * T.size + m)) hy (fun m hm => ?_)).2.2 j' hj2
              rw [setCells_get _ _ _ _ (by rw [cellsAV_length]; exact hsub)]
              by_cases hin : sub ≤ m ∧ m < sub + x.cells.length
              · rw [if_pos hin]
                have hc2 := (hcr (m - sub) (by omega)).stays hst
                have e2 : C2 (g.base + i' * T.size + m) = v.cells.getD (m - sub) undef := by
                  have := hC1 (m - sub) (by omega)
                  rw [show g.base + i' * T.size + sub + (m - sub) = g.base + i' * T.size + m by omega] at this
                  rw [this]
                  have : m - sub < v.cells.size := by omega
                  simp [List.getD, Array.getD, this]
                rw [e2]; exact hc2
              · rw [if_neg hin]
                rw [hC2 _ (by omega)]
                exact (hrep i' m hi3 hm).stays hst
            · have e1 : (xs.set i y).getD i' T.dflt = xs.getD i' T.dflt := by
                have : i ≠ i' := fun h => hii h.symm
                simp [List.getD, this]
              rw [e1]
              have hout : ¬ (g.base + i * T.size + sub ≤ g.base + i' * T.size + j' ∧ g.base + i' * T.size + j' < g.base + i * T.size + sub + v.cells.toList.length) := by
                rw [hvl]
                rcases Nat.lt_or_ge i' i with hlt | hge
                · have : (i' + 1) * T.size ≤ i * T.size := Nat.mul_le_mul_right _ hlt
                  rw [Nat.succ_mul] at this
                  omega
                · have : (i + 1) * T.size ≤ i' * T.size := Nat.mul_le_mul_right _ (by omega)
                  rw [Nat.succ_mul] at this
                  omega
              rw [hC2 _ hout]
              exact (hrep i' j' hi3 hj2).stays hst
          · intro m hm
            rw [hrow.cells _ (by omega)]; rfl
          · intro m hm
            exact hrow.free _ (by omega)
        · rw [if_neg hsub] at e; cases e
      · rename_i cs ho
        obtain ⟨g, hg, hobj⟩ := inv.obj hj (by rw [ho]; simp)
        rw [ho] at hobj
        obtain ⟨hi, b, hb, ha⟩ := h g hg
        by_cases hsub : sub + x.cells.length ≤ cs.length
        · rw [if_pos hsub] at e
          obtain ⟨h1, h2, b', hb', C, hrow, hrep⟩ := hobj
          rw [hb] at hb'; cases hb'
          have h0 : i = 0 := by omega
          subst h0
          simp only [Nat.zero_mul, Nat.add_zero] at ha
          have hvl : v.cells.toList.length = x.cells.length := by simp [hcl]
          obtain ⟨C2, hset, hC1, hC2⟩ := hrow.set' (o := g.base + sub) (vs := v.cells.toList) (by rw [hvl]; omega)
          have ht : Trans ob.length w G (w.setCells b (g.base + sub) v.cells.toList) G := trans_setCells ⟨j, g, hg, hb⟩
          have hst := ht.stays (F := F) (Nat.le_refl _)
          refine ⟨_, _, e, by simp, inv.setObj hg hb ht (fun c hc => heap_setCells b _ _ w c hc) ?_, ht, hrun b _ ha ?_ ?_⟩
          · refine ⟨h1, by rw [setCells_length]; exact h2, b, hb, C2, by rw [setCells_length]; exact hset, fun m hm => ?_⟩
            rw [setCells_length] at hm
            rw [setCells_get _ _ _ _ hsub]
            by_cases hin : sub ≤ m ∧ m < sub + x.cells.length
            · rw [if_pos hin]
              have e2 : C2 (g.base + m) = v.cells.getD (m - sub) undef := by
                have := hC1 (m - sub) (by omega)
                rw [show g.base + sub + (m - sub) = g.base + m by omega] at this
                rw [this]
                have : m - sub < v.cells.size := by omega
                simp [List.getD, Array.getD, this]
              rw [e2]; exact (hcr (m - sub) (by omega)).stays hst
            · rw [if_neg hin]
              rw [hC2 _ (by omega)]
              exact (hrep m hm).stays hst
          · intro m hm
            rw [hrow.cells _ (by omega)]; rfl
          · intro m hm
            exact hrow.free _ (by omega)
        · rw [if_neg hsub] at e; cases e
      · cases e
    · cases e
  · cases e
end

end Go.Proofs.YtlbammfnkphajaaGreatDoor.Abs
