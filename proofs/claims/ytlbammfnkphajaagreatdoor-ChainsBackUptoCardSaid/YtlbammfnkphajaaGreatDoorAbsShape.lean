/- Typed states: what is read off a state, written out again, says the same of the world. -/
import Derived.Test.YtlbammfnkphajaaGreatDoorAbsOpsI
namespace Go.Proofs.YtlbammfnkphajaaGreatDoor.Abs
open Go
set_option linter.unusedVariables false

section
variable {F : Nat → Prop} {P : Program} {TT : Nat → TI}

/-! ### Arrays that are given up -/

theorem frozen_rep {w : World} {G : Gs} {ob : List AO} (inv : Inv F w G ob) {el : Ty} {x : AV} {xs : List el.D} {v : Value} {j : Nat} (h : listOf el x ob = some xs) (hown : isOwn x = true) (hj : refOf x = some j)
    (hx : Rep (avoid F G) w ob.length G x v) {A' : Nat → Prop} {n' : Nat} {G' : Gs} (hA : ∀ b, A' b → F b ∨ ∃ j' g, G j' = some g ∧ g.blk = some b ∧ j' ≠ j) : Rep A' w n' G' (.isl el xs) v := by
  have hT : 0 < el.size := by
    cases x <;> simp only [refOf] at hj <;> try cases hj
    · cases hx
      rename_i hjl hv hg0
      simp only [listOf] at h
      split at h
      · rename_i T' ys ho
        split at h
        · rename_i hT'
          subst hT'
          obtain ⟨g, hg, hobj⟩ := inv.obj hjl (by rw [ho]; simp)
          rw [ho] at hobj
          exact hobj.2.1
        · cases h
      · cases h
    · cases hx
      rename_i hjl hv hg0
      simp only [listOf] at h
      split at h
      · rename_i T' ys ho
        split at h
        · rename_i hT'
          subst hT'
          obtain ⟨g, hg, hobj⟩ := inv.obj hjl (by rw [ho]; simp)
          rw [ho] at hobj
          exact hobj.2.1
        · cases h
      · cases h
    · cases hown
    · cases hown
  obtain ⟨base, cap, kj, rfl, hkill, hkj, hlc, hrest⟩ := own_sound inv h hown hx hT
  by_cases h0 : xs = []
  · subst h0; exact .islE _ _ _
  · have hpos := List.length_pos_iff.2 h0
    rcases hrest with h1 | ⟨i, g, off, b, C, rfl, hg, hb, rfl, hR, hC⟩
    · omega
    · have hij : i = j := by simpa using hkj j hj
      subst hij
      have hle : xs.length * el.size ≤ cap * el.size := Nat.mul_le_mul_right _ hlc
      refine .isl el xs b off cap (fun m => C (off + m)) h0 hT hlc (fun ha => ?_) (fun m hm => hR.cells _ (by omega)) (fun i' j' hi' hj' => (hC i' j' hi' hj').flat (fun c hc => ?_) (all_getD (cellsAV_flat el _) (by rw [cellsAV_length]; exact hj')))
      · rcases hA b ha with hF | ⟨j', g', hg', hb', hne⟩
        · exact (inv.free i g b hg hb).1 hF
        · exact hne (inv.inj j' i g' g b hg' hg hb' hb)
      · rcases hA c hc with hF | ⟨j', g', hg', hb', _⟩
        · exact .inl hF
        · exact .inr ⟨j', g', hg', hb'⟩


/-- A's blocks, without those of objects that are given up. -/
def Without (F : Nat → Prop) (G : Gs) (Z : List Nat) (A' : Nat → Prop) : Prop := ∀ b, A' b → avoid F G b ∧ ∀ j g, j ∈ Z → G j = some g → g.blk ≠ some b

theorem Without.frozen {w : World} {G : Gs} {ob : List AO} (inv : Inv F w G ob) {Z : List Nat} {A' : Nat → Prop} (h : Without F G Z A') {j : Nat} (hj : j ∈ Z) : ∀ b, A' b → F b ∨ ∃ j' g, G j' = some g ∧ g.blk = some b ∧ j' ≠ j := by
  intro b hb
  obtain ⟨h1, h2⟩ := h b hb
  rcases h1 with h1 | ⟨j', g, hg, hgb⟩
  · exact .inl h1
  · refine .inr ⟨j', g, hg, hgb, fun e => ?_⟩
    subst e
    exact h2 j' g hj hg hgb

theorem Without.sub {G : Gs} {Z : List Nat} {A' : Nat → Prop} (h : Without F G Z A') : ∀ b, A' b → avoid F G b := fun b hb => (h b hb).1
theorem Without.mono {G : Gs} {Z Z' : List Nat} {A' : Nat → Prop} (h : Without F G Z' A') (hz : ∀ j, j ∈ Z → j ∈ Z') : Without F G Z A' := fun b hb => ⟨(h b hb).1, fun j g hj => (h b hb).2 j g (hz j hj)⟩

theorem listOf_eq {T : Ty} {j : Nat} {ob : List AO} {xs : List T.D} (h : listOf T (.slw j) ob = some xs) : ob.getD j .dead = .arr T xs := by
  simp only [listOf] at h
  split at h
  · rename_i T' zs ho
    split at h
    · rename_i hT'
      subst hT'
      simp only [Option.some.injEq] at h
      have : zs = xs := h
      rw [ho, this]
    · cases h
  · cases h

theorem listOf_part {T : Ty} {j off len : Nat} {ob : List AO} {xs : List T.D} (h : listOf T (.sl j off len) ob = some xs) : ∃ ys, ob.getD j .dead = .arr T ys ∧ xs = (ys.drop off).take len := by
  simp only [listOf] at h
  split at h
  · rename_i T' zs ho
    split at h
    · rename_i hT'
      subst hT'
      simp only [Option.some.injEq] at h
      exact ⟨zs, ho, h.symm⟩
    · cases h
  · cases h

/-! ### Data that are read; objects that are given up for them -/

theorem lend_rep {w : World} {G : Gs} {ob : List AO} (inv : Inv F w G ob) {A' : Nat → Prop} {n' : Nat} {G' : Gs} : ∀ (T : Ty) (l : List AV) (Z : List Nat) (y : T.D) (rest : List AV) (Z' : List Nat) (c : Nat → Value), lend ob T l Z = some (y, rest, Z') →
    (∀ j, j < T.size → Rep (avoid F G) w ob.length G (l.getD j .dead) (c j)) →
    (∀ j, j ∈ Z → j ∈ Z') ∧ rest = l.drop T.size ∧ T.size ≤ l.length ∧ (Without F G Z' A' → ∀ j, j < T.size → Rep A' w n' G' ((cellsAV T y).getD j .dead) (c j))
  | .int k, l, Z, y, rest, Z', c, h, hr => by
    match l with
    | [] => simp [lend] at h
    | x :: l =>
      simp only [lend] at h
      split at h
      · split at h
        · rename_i hk
          subst hk
          simp only [Option.some.injEq, Prod.mk.injEq] at h
          obtain ⟨rfl, rfl, rfl⟩ := h
          exact ⟨fun _ h => h, rfl, by simp [Ty.size], fun hA j hj => by
            have h0 : j = 0 := by simpa [Ty.size] using hj
            subst h0; exact (hr 0 hj).flat hA.sub rfl⟩
        · cases h
      · cases h
  | .bool, l, Z, y, rest, Z', c, h, hr => by
    match l with
    | [] => simp [lend] at h
    | x :: l =>
      simp only [lend] at h
      split at h
      · simp only [Option.some.injEq, Prod.mk.injEq] at h
        obtain ⟨rfl, rfl, rfl⟩ := h
        exact ⟨fun _ h => h, rfl, by simp [Ty.size], fun hA j hj => by
          have h0 : j = 0 := by simpa [Ty.size] using hj
          subst h0; exact (hr 0 hj).flat hA.sub rfl⟩
      · cases h
  | .str, l, Z, y, rest, Z', c, h, hr => by
    match l with
    | [] => simp [lend] at h
    | x :: l =>
      simp only [lend] at h
      split at h
      · simp only [Option.some.injEq, Prod.mk.injEq] at h
        obtain ⟨rfl, rfl, rfl⟩ := h
        exact ⟨fun _ h => h, rfl, by simp [Ty.size], fun hA j hj => by
          have h0 : j = 0 := by simpa [Ty.size] using hj
          subst h0; exact (hr 0 hj).flat hA.sub rfl⟩
      · cases h
  | .sl e, l, Z, y, rest, Z', c, h, hr => by
    match l with
    | [] => simp [lend] at h
    | x :: l =>
      have h1 := hr 0 (by simp [Ty.size])
      simp only [List.getD_cons_zero] at h1
      simp only [lend] at h
      split at h
      · split at h
        · rename_i he
          subst he
          simp only [Option.some.injEq, Prod.mk.injEq] at h
          obtain ⟨rfl, rfl, rfl⟩ := h
          exact ⟨fun _ h => h, rfl, by simp [Ty.size], fun hA j hj => by
            have h0 : j = 0 := by simpa [Ty.size] using hj
            subst h0; exact h1.flat hA.sub rfl⟩
        · cases h
      · split at h
        · rename_i he
          subst he
          simp only [Option.some.injEq, Prod.mk.injEq] at h
          obtain ⟨rfl, rfl, rfl⟩ := h
          exact ⟨fun _ h => h, rfl, by simp [Ty.size], fun hA j hj => by
            have h0 : j = 0 := by simpa [Ty.size] using hj
            subst h0; exact h1.fgt.flat hA.sub rfl⟩
        · cases h
      · simp only [Option.some.injEq, Prod.mk.injEq] at h
        obtain ⟨rfl, rfl, rfl⟩ := h
        refine ⟨fun _ h => h, rfl, by simp [Ty.size], fun hA j hj => ?_⟩
        have h0 : j = 0 := by simpa [Ty.size] using hj
        subst h0
        generalize c 0 = v at h1
        cases h1
        exact .islE _ _ _
      · rename_i i
        simp only [Option.bind_eq_some_iff, Option.some.injEq, Prod.mk.injEq] at h
        obtain ⟨xs, hxs, rfl, rfl, rfl⟩ := h
        refine ⟨fun _ h => List.mem_cons_of_mem _ h, rfl, by simp [Ty.size], fun hA j hj => ?_⟩
        have h0 : j = 0 := by simpa [Ty.size] using hj
        subst h0
        exact frozen_rep inv hxs rfl rfl h1 (hA.frozen inv List.mem_cons_self)
      · rename_i i off len
        simp only [Option.bind_eq_some_iff, Option.some.injEq, Prod.mk.injEq] at h
        obtain ⟨xs, hxs, rfl, rfl, rfl⟩ := h
        refine ⟨fun _ h => List.mem_cons_of_mem _ h, rfl, by simp [Ty.size], fun hA j hj => ?_⟩
        have h0 : j = 0 := by simpa [Ty.size] using hj
        subst h0
        exact frozen_rep inv hxs rfl rfl h1 (hA.frozen inv List.mem_cons_self)
      · cases h
  | .nsl e, l, Z, y, rest, Z', c, h, hr => by
    match l with
    | [] => simp [lend] at h
    | x :: l =>
      have h1 := hr 0 (by simp [Ty.size])
      simp only [List.getD_cons_zero] at h1
      simp only [lend] at h
      split at h
      · split at h
        · rename_i he
          subst he
          simp only [Option.some.injEq, Prod.mk.injEq] at h
          obtain ⟨rfl, rfl, rfl⟩ := h
          exact ⟨fun _ h => h, rfl, by simp [Ty.size], fun hA j hj => by
            have h0 : j = 0 := by simpa [Ty.size] using hj
            subst h0; exact h1.flat hA.sub rfl⟩
        · cases h
      · simp only [Option.some.injEq, Prod.mk.injEq] at h
        obtain ⟨rfl, rfl, rfl⟩ := h
        refine ⟨fun _ h => h, rfl, by simp [Ty.size], fun hA j hj => ?_⟩
        have h0 : j = 0 := by simpa [Ty.size] using hj
        subst h0
        generalize c 0 = v at h1
        cases h1
        exact .nslE _
      · rename_i e' xs
        split at h
        · rename_i he
          subst he
          split at h
          · cases h
          · rename_i hne
            simp only [Option.some.injEq, Prod.mk.injEq] at h
            obtain ⟨rfl, rfl, rfl⟩ := h
            exact ⟨fun _ h => h, rfl, by simp [Ty.size], fun hA j hj => by
              have h0 : j = 0 := by simpa [Ty.size] using hj
              subst h0; exact .nsl e' xs _ (fun (q : xs = []) => hne (by rw [q]; rfl)) (h1.flat hA.sub rfl)⟩
        · cases h
      · rename_i i
        simp only [Option.bind_eq_some_iff] at h
        obtain ⟨xs, hxs, h⟩ := h
        split at h
        · cases h
        · rename_i hne
          simp only [Option.some.injEq, Prod.mk.injEq] at h
          obtain ⟨rfl, rfl, rfl⟩ := h
          refine ⟨fun _ h => List.mem_cons_of_mem _ h, rfl, by simp [Ty.size], fun hA j hj => ?_⟩
          have h0 : j = 0 := by simpa [Ty.size] using hj
          subst h0
          exact .nsl e xs _ (fun (q : xs = []) => hne (by rw [q]; rfl)) (frozen_rep inv hxs rfl rfl h1 (hA.frozen inv List.mem_cons_self))
      · rename_i i off len
        simp only [Option.bind_eq_some_iff] at h
        obtain ⟨xs, hxs, h⟩ := h
        split at h
        · cases h
        · rename_i hne
          simp only [Option.some.injEq, Prod.mk.injEq] at h
          obtain ⟨rfl, rfl, rfl⟩ := h
          refine ⟨fun _ h => List.mem_cons_of_mem _ h, rfl, by simp [Ty.size], fun hA j hj => ?_⟩
          have h0 : j = 0 := by simpa [Ty.size] using hj
          subst h0
          exact .nsl e xs _ (fun (q : xs = []) => hne (by rw [q]; rfl)) (frozen_rep inv hxs rfl rfl h1 (hA.frozen inv List.mem_cons_self))
      · cases h
  | .pair a b, l, Z, y, rest, Z', c, h, hr => by
    simp only [lend, Option.bind_eq_some_iff] at h
    obtain ⟨⟨y1, r1, Z1⟩, h1, ⟨y2, r2, Z2⟩, h2, h3⟩ := h
    simp only [Option.some.injEq, Prod.mk.injEq] at h3
    obtain ⟨rfl, rfl, rfl⟩ := h3
    obtain ⟨e0, e1, e2, e3⟩ := lend_rep inv a l Z y1 r1 Z1 c h1 (fun j hj => hr j (by simp [Ty.size]; omega))
    subst e1
    obtain ⟨f0, f1, f2, f3⟩ := lend_rep inv b _ Z1 y2 r2 Z2 (fun j => c (a.size + j)) h2 (fun j hj => by
      have := hr (a.size + j) (by simp [Ty.size]; omega)
      simpa [List.getD] using this)
    refine ⟨fun j hj => f0 j (e0 j hj), by rw [f1, List.drop_drop]; rfl, by simp [Ty.size] at f2 ⊢; omega, fun hA j hj => ?_⟩
    simp only [Ty.size] at hj
    by_cases hlt : j < a.size
    · have := e3 (hA.mono f0) j hlt
      have e4 : (cellsAV (.pair a b) (y1, y2)).getD j .dead = (cellsAV a y1).getD j .dead := by
        have := cellsAV_length a y1
        simp [cellsAV, List.getD, List.getElem?_append, this, hlt]
      rw [e4]; exact this
    · have := f3 hA (j - a.size) (by omega)
      have e4 : (cellsAV (.pair a b) (y1, y2)).getD j .dead = (cellsAV b y2).getD (j - a.size) .dead := by
        have := cellsAV_length a y1
        simp [cellsAV, List.getD, List.getElem?_append, this, hlt]
      rw [e4]
      rwa [show a.size + (j - a.size) = j by omega] at this
  | .st a, l, Z, y, rest, Z', c, h, hr => by
    simp only [lend] at h
    exact lend_rep inv a l Z y rest Z' c h hr
  | .unit, l, Z, y, rest, Z', c, h, hr => by
    simp only [lend, Option.some.injEq, Prod.mk.injEq] at h
    obtain ⟨_, rfl, rfl⟩ := h
    exact ⟨fun _ h => h, rfl, Nat.zero_le _, fun hA j hj => by cases hj⟩
  | .ptr e, l, Z, y, rest, Z', c, h, hr => by
    match l with
    | [] => simp [lend] at h
    | x :: l =>
      have h1 := hr 0 (by simp [Ty.size])
      simp only [List.getD_cons_zero] at h1
      cases x
      case iptr e' v sub =>
        cases sub with
        | succ => simp [lend] at h
        | zero =>
          simp only [lend] at h
          split at h
          · rename_i he
            subst he
            simp only [Option.some.injEq, Prod.mk.injEq] at h
            obtain ⟨rfl, rfl, rfl⟩ := h
            exact ⟨fun _ h => h, rfl, by simp [Ty.size], fun hA j hj => by
              have h0 : j = 0 := by simpa [Ty.size] using hj
              subst h0; exact h1.flat hA.sub rfl⟩
          · cases h
      case ptr i a b =>
        cases a with
        | succ => simp [lend] at h
        | zero =>
          cases b with
          | succ => simp [lend] at h
          | zero =>
            simp only [lend] at h
            split at h
            · rename_i cs ho
              split at h
              · rename_i hpos
                simp only [Option.bind_eq_some_iff] at h
                obtain ⟨⟨y', r', Z2⟩, h2, h3⟩ := h
                split at h3
                · rename_i hnil
                  simp only at hnil
                  subst hnil
                  simp only [Option.some.injEq, Prod.mk.injEq] at h3
                  obtain ⟨rfl, rfl, rfl⟩ := h3
                  generalize hc0 : c 0 = v0 at h1
                  cases h1
                  rename_i hj hv hg0
                  obtain ⟨g, hg, hobj⟩ := inv.obj hj (by rw [ho]; simp)
                  rw [ho] at hobj
                  obtain ⟨g1, g2, b, hb, C, hrow, hrep⟩ := hobj
                  obtain ⟨_, b', hb', hv0⟩ := hg0 g hg
                  rw [hb] at hb'; cases hb'
                  obtain ⟨e0, e1, e2, e3⟩ := lend_rep inv e cs (i :: Z) y' [] Z2 (fun m => C (g.base + m)) h2 (fun m hm => by
                    by_cases hlt : m < cs.length
                    · exact hrep m hlt
                    · have : cs.getD m .dead = .dead := by simp [List.getD, List.getElem?_eq_none (Nat.le_of_not_lt hlt)]
                      rw [this]; exact .dead _)
                  refine ⟨fun j hj => e0 j (List.mem_cons_of_mem _ hj), rfl, by simp [Ty.size], fun hA j hj => ?_⟩
                  have h0 : j = 0 := by simpa [Ty.size] using hj
                  subst h0
                  rw [hc0, hv0]
                  have hnA : ¬ A' b := fun hb' => (hA b hb').2 i g (e0 i List.mem_cons_self) hg hb
                  have := Rep.iptr (A := A') (w := w) (n := n') (G := G') e y' 0 b g.base (fun m => C (g.base + m)) hpos hnA (fun m hm => hrow.cells _ (by omega)) (fun m hm => e3 hA m hm)
                  simpa [cellsAV] using this
                · cases h3
              · cases h
            · cases h
      all_goals (simp [lend] at h)
  | .map K V, l, Z, y, rest, Z', c, h, hr => by
    match l with
    | [] => simp [lend] at h
    | x :: l =>
      have h1 := hr 0 (by simp [Ty.size])
      simp only [List.getD_cons_zero] at h1
      simp only [lend] at h
      split at h
      · split at h
        · rename_i he
          obtain ⟨rfl, rfl⟩ := he
          simp only [Option.some.injEq, Prod.mk.injEq] at h
          obtain ⟨rfl, rfl, rfl⟩ := h
          exact ⟨fun _ h => h, rfl, by simp [Ty.size], fun hA j hj => by
            have h0 : j = 0 := by simpa [Ty.size] using hj
            subst h0; exact h1.flat hA.sub rfl⟩
        · cases h
      · simp only [Option.some.injEq, Prod.mk.injEq] at h
        obtain ⟨rfl, rfl, rfl⟩ := h
        refine ⟨fun _ h => h, rfl, by simp [Ty.size], fun hA j hj => ?_⟩
        have h0 : j = 0 := by simpa [Ty.size] using hj
        subst h0
        generalize c 0 = v at h1
        cases h1
        exact .imapE _ _
      · rename_i i
        split at h
        · rename_i K' V' es ho
          split at h
          · rename_i he
            obtain ⟨rfl, rfl⟩ := he
            simp only [Option.some.injEq, Prod.mk.injEq] at h
            obtain ⟨rfl, rfl, rfl⟩ := h
            refine ⟨fun _ h => List.mem_cons_of_mem _ h, rfl, by simp [Ty.size], fun hA j hj => ?_⟩
            have h0 : j = 0 := by simpa [Ty.size] using hj
            subst h0
            generalize c 0 = v at h1
            cases h1
            rename_i hj' hv hg0
            obtain ⟨g, hg, hobj⟩ := inv.obj hj' (by rw [ho]; simp)
            rw [ho] at hobj
            obtain ⟨b, ms, clock, g1, hb, hst, hl, hks, hvs⟩ := hobj
            obtain ⟨b', hb', rfl⟩ := hg0 g hg
            rw [g1] at hb'; cases hb'
            have hnA : ¬ A' b := fun hb' => (hA b hb').2 i g List.mem_cons_self hg g1
            exact .imap K' V' es b ms clock hnA hb hst hl (fun m hm => (hks m hm).flatArg hA.sub (toAV_flat K' _)) (fun m hm => (hvs m hm).flatArg hA.sub (toAV_flat V' _))
          · cases h
        · cases h
      · cases h

theorem lend_ok {ob : List AO} : ∀ (T : Ty) (l : List AV) (Z : List Nat) (y : T.D) (rest : List AV) (Z' : List Nat), lend ob T l Z = some (y, rest, Z') → l.length = T.size + rest.length
  | .int k, l, Z, y, rest, Z', h => by
    match l with
    | [] => simp [lend] at h
    | x :: l =>
      simp only [lend] at h
      split at h
      · split at h
        · simp only [Option.some.injEq, Prod.mk.injEq] at h
          obtain ⟨_, rfl, _⟩ := h
          simp [Ty.size]; omega
        · cases h
      · cases h
  | .bool, l, Z, y, rest, Z', h => by
    match l with
    | [] => simp [lend] at h
    | x :: l =>
      simp only [lend] at h
      split at h
      · simp only [Option.some.injEq, Prod.mk.injEq] at h
        obtain ⟨_, rfl, _⟩ := h
        simp [Ty.size]; omega
      · cases h
  | .str, l, Z, y, rest, Z', h => by
    match l with
    | [] => simp [lend] at h
    | x :: l =>
      simp only [lend] at h
      split at h
      · simp only [Option.some.injEq, Prod.mk.injEq] at h
        obtain ⟨_, rfl, _⟩ := h
        simp [Ty.size]; omega
      · cases h
  | .sl e, l, Z, y, rest, Z', h => by
    match l with
    | [] => simp [lend] at h
    | x :: l =>
      simp only [lend] at h
      split at h
      · split at h
        · simp only [Option.some.injEq, Prod.mk.injEq] at h
          obtain ⟨_, rfl, _⟩ := h
          simp [Ty.size]; omega
        · cases h
      · split at h
        · simp only [Option.some.injEq, Prod.mk.injEq] at h
          obtain ⟨_, rfl, _⟩ := h
          simp [Ty.size]; omega
        · cases h
      · simp only [Option.some.injEq, Prod.mk.injEq] at h
        obtain ⟨_, rfl, _⟩ := h
        simp [Ty.size]; omega
      · simp only [Option.bind_eq_some_iff, Option.some.injEq, Prod.mk.injEq] at h
        obtain ⟨_, _, _, rfl, _⟩ := h
        simp [Ty.size]; omega
      · simp only [Option.bind_eq_some_iff, Option.some.injEq, Prod.mk.injEq] at h
        obtain ⟨_, _, _, rfl, _⟩ := h
        simp [Ty.size]; omega
      · cases h
  | .nsl e, l, Z, y, rest, Z', h => by
    match l with
    | [] => simp [lend] at h
    | x :: l =>
      simp only [lend] at h
      split at h
      · split at h
        · simp only [Option.some.injEq, Prod.mk.injEq] at h
          obtain ⟨_, rfl, _⟩ := h
          simp [Ty.size]; omega
        · cases h
      · simp only [Option.some.injEq, Prod.mk.injEq] at h
        obtain ⟨_, rfl, _⟩ := h
        simp [Ty.size]; omega
      · split at h
        · split at h
          · cases h
          · simp only [Option.some.injEq, Prod.mk.injEq] at h
            obtain ⟨_, rfl, _⟩ := h
            simp [Ty.size]; omega
        · cases h
      · simp only [Option.bind_eq_some_iff] at h
        obtain ⟨_, _, h⟩ := h
        split at h
        · cases h
        · simp only [Option.some.injEq, Prod.mk.injEq] at h
          obtain ⟨_, rfl, _⟩ := h
          simp [Ty.size]; omega
      · simp only [Option.bind_eq_some_iff] at h
        obtain ⟨_, _, h⟩ := h
        split at h
        · cases h
        · simp only [Option.some.injEq, Prod.mk.injEq] at h
          obtain ⟨_, rfl, _⟩ := h
          simp [Ty.size]; omega
      · cases h
  | .pair a b, l, Z, y, rest, Z', h => by
    simp only [lend, Option.bind_eq_some_iff] at h
    obtain ⟨⟨y1, r1, Z1⟩, h1, ⟨y2, r2, Z2⟩, h2, h3⟩ := h
    simp only [Option.some.injEq, Prod.mk.injEq] at h3
    obtain ⟨_, rfl, _⟩ := h3
    have e1 := lend_ok a _ _ _ _ _ h1
    have e2 := lend_ok b _ _ _ _ _ h2
    simp only [Ty.size] at e1 e2 ⊢
    omega
  | .st a, l, Z, y, rest, Z', h => by
    simp only [lend] at h
    exact lend_ok a l Z y rest Z' h
  | .unit, l, Z, y, rest, Z', h => by
    simp only [lend, Option.some.injEq, Prod.mk.injEq] at h
    obtain ⟨_, rfl, _⟩ := h
    simp [Ty.size]
  | .ptr e, l, Z, y, rest, Z', h => by
    match l with
    | [] => simp [lend] at h
    | x :: l =>
      cases x
      case iptr e' v sub =>
        cases sub with
        | succ => simp [lend] at h
        | zero =>
          simp only [lend] at h
          split at h
          · simp only [Option.some.injEq, Prod.mk.injEq] at h
            obtain ⟨_, rfl, _⟩ := h
            simp [Ty.size]; omega
          · cases h
      case ptr i a b =>
        cases a with
        | succ => simp [lend] at h
        | zero =>
          cases b with
          | succ => simp [lend] at h
          | zero =>
            simp only [lend] at h
            split at h
            · split at h
              · simp only [Option.bind_eq_some_iff] at h
                obtain ⟨⟨y', r', Z2⟩, h2, h3⟩ := h
                split at h3
                · simp only [Option.some.injEq, Prod.mk.injEq] at h3
                  obtain ⟨_, rfl, _⟩ := h3
                  simp [Ty.size]; omega
                · cases h3
              · cases h
            · cases h
      all_goals (simp [lend] at h)
  | .map K V, l, Z, y, rest, Z', h => by
    match l with
    | [] => simp [lend] at h
    | x :: l =>
      simp only [lend] at h
      split at h
      · split at h
        · simp only [Option.some.injEq, Prod.mk.injEq] at h
          obtain ⟨_, rfl, _⟩ := h
          simp [Ty.size]; omega
        · cases h
      · simp only [Option.some.injEq, Prod.mk.injEq] at h
        obtain ⟨_, rfl, _⟩ := h
        simp [Ty.size]; omega
      · split at h
        · split at h
          · simp only [Option.some.injEq, Prod.mk.injEq] at h
            obtain ⟨_, rfl, _⟩ := h
            simp [Ty.size]; omega
          · cases h
        · cases h
      · cases h

/-- A datum of a value, and the value. -/
theorem lendV_rep {w : World} {G : Gs} {ob : List AO} (inv : Inv F w G ob) {A' : Nat → Prop} {n' : Nat} {G' : Gs} {T : Ty} {x : AV} {Z Z' : List Nat} {d : T.D} (h : lendV ob T x Z = some (d, Z')) {v : Value} (hx : Rep (avoid F G) w ob.length G x v) :
    (∀ j, j ∈ Z → j ∈ Z') ∧ (Without F G Z' A' → Rep A' w n' G' (toAV T d) v) := by
  unfold lendV at h
  split at h
  case isFalse => cases h
  rename_i hag
  simp only [Option.bind_eq_some_iff] at h
  obtain ⟨⟨y, rest, Z2⟩, h1, h2⟩ := h
  split at h2
  case h_2 => cases h2
  rename_i hnil
  simp only at hnil
  subst hnil
  simp only [Option.some.injEq, Prod.mk.injEq] at h2
  obtain ⟨rfl, rfl⟩ := h2
  have hlen := lend_ok T _ _ _ _ _ h1
  simp only [List.length_nil, Nat.add_zero] at hlen
  cases hT : T.isAgg with
  | true =>
    rw [hT] at hag
    cases x <;> simp [AV.isAgg] at hag
    rename_i cs
    cases hx with
    | agg _ vs hl hr =>
      simp only [AV.cells] at h1 hlen
      obtain ⟨e0, _, _, e3⟩ := lend_rep (A' := A') (n' := n') (G' := G') inv T cs Z y [] Z2 (fun m => vs.getD m undef) h1 (fun j hj => hr j (by omega))
      refine ⟨e0, fun hA => ?_⟩
      have hl2 : (cellsAV T y).length = vs.size := by rw [cellsAV_length]; omega
      have fin : Rep A' w n' G' (.agg (cellsAV T y)) (.agg vs) := .agg _ vs hl2 fun i hi => e3 hA i (by rw [cellsAV_length] at hi; exact hi)
      cases T <;> simp [Ty.isAgg] at hT
      · exact fin
      · exact fin
      · exact fin
  | false =>
    rw [hT] at hag
    have hxc : x.cells = [x] := by cases x <;> first | rfl | simp [AV.isAgg] at hag
    rw [hxc] at h1
    obtain ⟨e0, _, _, e3⟩ := lend_rep (A' := A') (n' := n') (G' := G') inv T [x] Z y [] Z2 (fun _ => v) h1 (fun j hj => by
      have hs : T.size = 1 := by cases T <;> simp [Ty.isAgg] at hT <;> rfl
      have : j = 0 := by omega
      subst this; exact hx)
    refine ⟨e0, fun hA => ?_⟩
    have hs : T.size = 1 := by cases T <;> simp [Ty.isAgg] at hT <;> rfl
    have := e3 hA 0 (by omega)
    have e1 : (cellsAV T y).getD 0 .dead = toAV T y := by cases T <;> simp [Ty.isAgg] at hT <;> rfl
    rw [e1] at this; exact this

/-! ### Where the objects of a typed state lie -/

def Gn (src : List (Option Whence)) (objs : List OT) (G : Gs) : Gs := fun i =>
  match src[i]?, objs[i]? with
  | some (some (.obj _)), some .dead => none
  | some (some (.obj j)), some _ => G j
  | some (some (.part j off len)), some (.arr _) => (G j).map fun g => ⟨g.blk, g.base + off * g.size, g.size, len, g.cap - off⟩
  | some (some .empty), some (.arr T) => some ⟨none, 0, T.size, 0, 0⟩
  | _, _ => none

/-- What is kept while a state is read. -/
structure AccInv (n : Nat) (G : Gs) (acc : Acc) : Prop where
  lt : ∀ (i : Nat) (x : Whence) (j : Nat), acc.src[i]? = some (some x) → x.j = some j → j < n
  own : ∀ (i : Nat) (x : Whence) (j : Nat), acc.src[i]? = some (some x) → x.j = some j → j ∈ acc.own
  inj : ∀ (i i' : Nat) (x x' : Whence) (j : Nat), acc.src[i]? = some (some x) → acc.src[i']? = some (some x') → x.j = some j → x'.j = some j → i = i'
  part : ∀ (i j off len : Nat), acc.src[i]? = some (some (.part j off len)) → ∀ g, G j = some g → off + len ≤ g.len

structure AccLe (a b : Acc) : Prop where
  src : ∀ (i : Nat) (x : Whence), a.src[i]? = some (some x) → b.src[i]? = some (some x)
  own : ∀ j, j ∈ a.own → j ∈ b.own
  gone : ∀ j, j ∈ a.gone → j ∈ b.gone
  len : b.src.length = a.src.length

theorem AccLe.refl (a : Acc) : AccLe a a := ⟨fun _ _ h => h, fun _ h => h, fun _ h => h, rfl⟩
theorem AccLe.trans {a b c : Acc} (h : AccLe a b) (k : AccLe b c) : AccLe a c := ⟨fun i x hx => k.src i x (h.src i x hx), fun j hj => k.own j (h.own j hj), fun j hj => k.gone j (h.gone j hj), k.len.trans h.len⟩

theorem notIn_iff : ∀ (l : List Nat) (j : Nat), notIn j l = true → j ∉ l
  | [], j, _ => by simp
  | i :: l, j, h => by
    simp only [notIn] at h
    split at h
    · cases h
    · rename_i hne
      have hne' : j ≠ i := by simpa using hne
      simp only [List.mem_cons, not_or]
      exact ⟨hne', notIn_iff l j h⟩

theorem apart_iff : ∀ (l m : List Nat), apart l m = true → ∀ j, j ∈ l → j ∉ m
  | [], m, _, j, hj => by cases hj
  | i :: l, m, h, j, hj => by
    simp only [apart, Bool.and_eq_true] at h
    rcases List.mem_cons.1 hj with rfl | hj
    · exact notIn_iff m j h.1
    · exact apart_iff l m h.2 j hj

theorem Acc.add_sound {n : Nat} {G : Gs} {acc acc' : Acc} {i : Nat} {x : Whence} (h : acc.add i x = some acc') (hi : AccInv n G acc) (hlt0 : ∀ j, x.j = some j → j < n) (hp : ∀ j off len, x = .part j off len → ∀ g, G j = some g → off + len ≤ g.len) :
    AccLe acc acc' ∧ AccInv n G acc' ∧ acc'.src[i]? = some (some x) ∧ acc'.gone = acc.gone := by
  unfold Acc.add at h
  split at h
  · rename_i hsrc
    have hlt : i < acc.src.length := (List.getElem?_eq_some_iff.1 hsrc).1
    have hle : ∀ (k : Nat) (y : Whence), acc.src[k]? = some (some y) → (acc.src.set i (some x))[k]? = some (some y) := by
      intro k y hk
      have hne : i ≠ k := by intro e; subst e; rw [hsrc] at hk; cases hk
      simp [hne, hk]
    have hnew : ∀ (k : Nat) (y : Whence), (acc.src.set i (some x))[k]? = some (some y) → (k = i ∧ y = x) ∨ (k ≠ i ∧ acc.src[k]? = some (some y)) := by
      intro k y hk
      by_cases e : i = k
      · subst e
        simp [hlt] at hk
        exact .inl ⟨rfl, hk.symm⟩
      · simp [e] at hk
        exact .inr ⟨fun e' => e e'.symm, hk⟩
    split at h
    · rename_i hj
      simp only [Option.some.injEq] at h
      subst h
      refine ⟨⟨hle, fun _ h => h, fun _ h => h, by simp⟩, ⟨fun k y j hk hy => ?_, fun k y j hk hy => ?_, fun k k' y y' j hk hk' hy hy' => ?_, fun k j off len hk g hg => ?_⟩, by simp [hlt], rfl⟩
      · rcases hnew k y hk with ⟨_, e2⟩ | ⟨_, hk2⟩
        · rw [e2] at hy; exact hlt0 j hy
        · exact hi.lt k y j hk2 hy
      · rcases hnew k y hk with ⟨rfl, rfl⟩ | ⟨_, hk⟩
        · rw [hj] at hy; cases hy
        · exact hi.own k y j hk hy
      · rcases hnew k y hk with ⟨rfl, rfl⟩ | ⟨_, hk⟩
        · rw [hj] at hy; cases hy
        · rcases hnew k' y' hk' with ⟨rfl, rfl⟩ | ⟨_, hk'⟩
          · rw [hj] at hy'; cases hy'
          · exact hi.inj k k' y y' j hk hk' hy hy'
      · rcases hnew k _ hk with ⟨rfl, rfl⟩ | ⟨_, hk⟩
        · simp [Whence.j] at hj
        · exact hi.part k j off len hk g hg
    · rename_i j hj
      split at h
      · rename_i hn
        have hnot := notIn_iff _ _ hn
        simp only [Option.some.injEq] at h
        subst h
        refine ⟨⟨hle, fun _ h => List.mem_cons_of_mem _ h, fun _ h => h, by simp⟩, ⟨fun k y j' hk hy => ?_, fun k y j' hk hy => ?_, fun k k' y y' j' hk hk' hy hy' => ?_, fun k j' off len hk g hg => ?_⟩, by simp [hlt], rfl⟩
        · rcases hnew k y hk with ⟨_, e2⟩ | ⟨_, hk2⟩
          · rw [e2] at hy; exact hlt0 j' hy
          · exact hi.lt k y j' hk2 hy
        · rcases hnew k y hk with ⟨_, e2⟩ | ⟨_, hk2⟩
          · rw [e2, hj] at hy; cases hy; exact List.mem_cons_self
          · exact List.mem_cons_of_mem _ (hi.own k y j' hk2 hy)
        · rcases hnew k y hk with ⟨e1, e2⟩ | ⟨_, hk2⟩
          · rcases hnew k' y' hk' with ⟨e3, e4⟩ | ⟨_, hk2'⟩
            · rw [e1, e3]
            · rw [e2, hj] at hy; cases hy
              exact absurd (hi.own k' y' j hk2' hy') hnot
          · rcases hnew k' y' hk' with ⟨e3, e4⟩ | ⟨_, hk2'⟩
            · rw [e4, hj] at hy'; cases hy'
              exact absurd (hi.own k y j hk2 hy) hnot
            · exact hi.inj k k' y y' j' hk2 hk2' hy hy'
        · rcases hnew k _ hk with ⟨_, e2⟩ | ⟨_, hk2⟩
          · exact hp j' off len e2.symm g hg
          · exact hi.part k j' off len hk2 g hg
      · cases h
  · rename_i j hsrc
    split at h
    · rename_i j'
      split at h
      · rename_i he
        have : j' = j := by simpa using he
        subst this
        simp only [Option.some.injEq] at h
        subst h
        exact ⟨.refl _, hi, hsrc, rfl⟩
      · cases h
    · cases h
  · cases h

/-! ### Values that are read -/

theorem repL_split {A : Nat → Prop} {w : World} {n : Nat} {G : Gs} : ∀ {l m : List AV} {vs : List Value}, RepL A w n G (l ++ m) vs → ∃ us ws, vs = us ++ ws ∧ RepL A w n G l us ∧ RepL A w n G m ws
  | [], m, vs, h => ⟨[], vs, rfl, trivial, h⟩
  | x :: l, m, [], h => h.elim
  | x :: l, m, v :: vs, h => by
    obtain ⟨us, ws, rfl, h1, h2⟩ := repL_split (l := l) h.2
    exact ⟨v :: us, ws, rfl, ⟨h.1, h1⟩, h2⟩

theorem repL_nil {A : Nat → Prop} {w : World} {n : Nat} {G : Gs} {vs : List Value} (h : RepL A w n G [] vs) : vs = [] := by
  cases vs with
  | nil => rfl
  | cons => exact h.elim

theorem PD_fst {A B : Type} (a0 : A) (ua ub : Bool) (a : A) (b : B) (h : ua = true → a = a0) : PD.fst a0 ua ub (PD.mk ua ub a b) = a := by
  cases ua with
  | true => exact (h rfl).symm
  | false => cases ub <;> rfl

theorem PD_snd {A B : Type} (b0 : B) (ua ub : Bool) (a : A) (b : B) (h : ub = true → b = b0) : PD.snd b0 ua ub (PD.mk ua ub a b) = b := by
  cases ua with
  | true => rfl
  | false => cases ub with
    | true => exact (h rfl).symm
    | false => rfl

theorem PD_one {A B : Type} {ua ub : Bool} (h : ua = true) (hb : ∀ (a b : B), a = b) : ∀ (a b : PD ua ub A B), a = b := by
  subst h; exact hb

theorem Sh.one : ∀ (s : Sh), s.u = true → ∀ (a b : s.D), a = b
  | .v _, h => by cases h
  | .part _, h => by cases h
  | .fn f p q, h => by
    simp only [Sh.u, Bool.and_eq_true] at h
    exact PD_one h.1 (Sh.one q h.2)
  | .fsl p, h => Sh.one p h
  | .cons p q, h => by
    simp only [Sh.u, Bool.and_eq_true] at h
    exact PD_one h.1 (Sh.one q h.2)
  | .ref _, _ => fun _ _ => rfl
  | .nilptr, _ => fun _ _ => rfl
  | .nilfn, _ => fun _ _ => rfl
  | .nilmap, _ => fun _ _ => rfl
  | .nilifc, _ => fun _ _ => rfl
  | .nilsl, _ => fun _ _ => rfl
  | .nil, _ => fun _ _ => rfl

theorem OT.one : ∀ (o : OT), o.u = true → ∀ (a b : o.D), a = b
  | .dead, _ => fun _ _ => rfl
  | .box fs, h => Sh.one fs h
  | .arr _, h => by cases h
  | .map _ _, h => by cases h

theorem objs_one : ∀ (l : List OT), objsU l = true → ∀ (a b : objsD l), a = b
  | [], _ => fun _ _ => rfl
  | o :: r, h => by
    simp only [objsU, Bool.and_eq_true] at h
    exact PD_one h.1 (objs_one r h.2)

/-- A place of an object. -/
theorem ref_sound {w : World} {G : Gs} {ob : List AO} (inv : Inv F w G ob) {objs : List OT} {i : Nat} {o : OT} (ho : objs[i]? = some o) {x : AV} {s : Whence} (hs : refSrc o x = some s) {v : Value} (hx : Rep (avoid F G) w ob.length G x v) :
    (∀ j, s.j = some j → j < ob.length) ∧ (∀ j off len, s = .part j off len → ∀ g, G j = some g → off + len ≤ g.len) ∧
    ∀ (src : List (Option Whence)) (A' : Nat → Prop), src[i]? = some (some s) → Rep A' w objs.length (Gn src objs G) (refAV objs i i) v := by
  have hi : i < objs.length := (List.getElem?_eq_some_iff.1 ho).1
  unfold refSrc at hs
  split at hs
  · rename_i T j
    simp only [Option.some.injEq] at hs
    subst hs
    cases hx
    rename_i hj hv hg0
    refine ⟨fun j' h => by (first | (cases h; done) | (cases h; exact hj)), fun _ _ _ h => (nomatch h), fun src A' hsrc => ?_⟩
    have hG : Gn src objs G i = G j := by simp [Gn, hsrc, ho]
    simp only [refAV, ho]
    exact .slw _ _ hi hv fun g hg => hg0 g (hG ▸ hg)
  · rename_i T j off len
    simp only [Option.some.injEq] at hs
    subst hs
    cases hx
    rename_i hj hv hg0
    refine ⟨fun j' h => by (cases h; exact hj), fun j' off' len' h g hg => ?_, fun src A' hsrc => ?_⟩
    · cases h
      obtain ⟨a, cap, rfl, h1, h2, h3, h4⟩ := hg0 g hg
      exact h3
    · have hG : Gn src objs G i = (G j).map fun g => ⟨g.blk, g.base + off * g.size, g.size, len, g.cap - off⟩ := by simp [Gn, hsrc, ho]
      simp only [refAV, ho]
      refine .slw _ _ hi hv fun g' hg' => ?_
      rw [hG] at hg'
      simp only [Option.map_eq_some_iff] at hg'
      obtain ⟨g, hg, rfl⟩ := hg'
      obtain ⟨a, cap, rfl, h1, h2, h3, h4⟩ := hg0 g hg
      exact ⟨a, cap, rfl, by simp; omega, by simpa using h2, by simp, fun hc => by rw [h4 hc]; simp [Gh.addr]⟩
  · simp only [Option.some.injEq] at hs
    subst hs
    rename_i T
    cases hx
    refine ⟨fun j' h => by (first | (cases h; done) | (cases h; exact hj)), fun _ _ _ h => (nomatch h), fun src A' hsrc => ?_⟩
    have hG : Gn src objs G i = some ⟨none, 0, T.size, 0, 0⟩ := by simp [Gn, hsrc, ho]
    simp only [refAV, ho]
    refine .slw _ _ hi ⟨_, _, _, rfl⟩ fun g hg => ?_
    rw [hG] at hg; cases hg
    exact ⟨none, 0, rfl, by simp, by simp, by simp, fun h => absurd rfl h⟩
  · rename_i fs j
    simp only [Option.some.injEq] at hs
    subst hs
    cases hx
    rename_i hj hv hg0
    refine ⟨fun j' h => by (first | (cases h; done) | (cases h; exact hj)), fun _ _ _ h => (nomatch h), fun src A' hsrc => ?_⟩
    have hG : Gn src objs G i = G j := by simp [Gn, hsrc, ho]
    simp only [refAV, ho]
    exact .ptr _ _ _ _ hi hv fun g hg => hg0 g (hG ▸ hg)
  · rename_i K V j
    simp only [Option.some.injEq] at hs
    subst hs
    cases hx
    rename_i hj hv hg0
    refine ⟨fun j' h => by (first | (cases h; done) | (cases h; exact hj)), fun _ _ _ h => (nomatch h), fun src A' hsrc => ?_⟩
    have hG : Gn src objs G i = G j := by simp [Gn, hsrc, ho]
    simp only [refAV, ho]
    exact .map _ _ hi hv fun g hg => hg0 g (hG ▸ hg)
  · cases hs

theorem decL_sound {w : World} {G : Gs} {ob : List AO} (inv : Inv F w G ob) {objs : List OT} : ∀ (s : Sh) (l : List AV) (acc : Acc) (d : s.D) (rest : List AV) (acc' : Acc) (vs : List Value), decL objs ob s l acc = some (d, rest, acc') →
    AccInv ob.length G acc → RepL (avoid F G) w ob.length G l vs →
    ∃ us ws, vs = us ++ ws ∧ RepL (avoid F G) w ob.length G rest ws ∧ AccLe acc acc' ∧ AccInv ob.length G acc' ∧
      ∀ (fin : Acc) (A' : Nat → Prop), AccLe acc' fin → Without F G fin.gone A' → RepL A' w objs.length (Gn fin.src objs G) (encL objs id s d) us
  | .v T, l, acc, d, rest, acc', vs, h, hi, hr => by
    match l, vs, hr with
    | [], _, _ => simp [decL] at h
    | x :: l, [], hr => exact hr.elim
    | x :: l, v :: vs, hr =>
      simp only [decL, Option.bind_eq_some_iff, Option.some.injEq, Prod.mk.injEq] at h
      obtain ⟨⟨y, Z⟩, h1, rfl, rfl, rfl⟩ := h
      refine ⟨[v], vs, rfl, hr.2, ⟨fun _ _ h => h, fun _ h => h, (lendV_rep (A' := fun _ => False) (n' := 0) (G' := G) inv h1 hr.1).1, rfl⟩, ⟨hi.lt, hi.own, hi.inj, hi.part⟩, fun fin A' hfin hA => ⟨?_, trivial⟩⟩
      exact (lendV_rep inv h1 hr.1).2 (hA.mono hfin.gone)
  | .ref i, l, acc, d, rest, acc', vs, h, hi, hr => by
    match l, vs, hr with
    | [], _, _ => simp [decL] at h
    | x :: l, [], hr => exact hr.elim
    | x :: l, v :: vs, hr =>
      simp only [decL] at h
      split at h
      · rename_i o ho
        simp only [Option.bind_eq_some_iff, Option.some.injEq, Prod.mk.injEq] at h
        obtain ⟨s, hs, acc2, ha, _, rfl, rfl⟩ := h
        obtain ⟨g0, g1, g2⟩ := ref_sound inv ho hs hr.1
        obtain ⟨a1, a2, a3, _⟩ := Acc.add_sound ha hi g0 g1
        exact ⟨[v], vs, rfl, hr.2, a1, a2, fun fin A' hfin hA => ⟨g2 fin.src A' (hfin.src _ _ a3), trivial⟩⟩
      · cases h
  | .part i, l, acc, d, rest, acc', vs, h, hi, hr => by
    match l, vs, hr with
    | [], _, _ => simp [decL] at h
    | x :: l, [], hr => exact hr.elim
    | x :: l, v :: vs, hr =>
      simp only [decL] at h
      split at h
      case h_2 => cases h
      rename_i j off len
      split at h
      case h_2 => cases h
      rename_i j' hsrc
      split at h
      case h_2 => cases h
      rename_i hj
      simp only [beq_iff_eq] at hj
      subst hj
      simp only [Option.some.injEq, Prod.mk.injEq] at h
      obtain ⟨rfl, rfl, rfl⟩ := h
      have hx := hr.1
      refine ⟨[v], vs, rfl, hr.2, .refl _, hi, fun fin A' hfin hA => ⟨?_, trivial⟩⟩
      cases hx
      rename_i hj hv hg
      unfold partAV'
      split
      · rename_i T ho
        have hG : Gn fin.src objs G i = G j' := by simp [Gn, hfin.src _ _ hsrc, ho]
        exact .sl i off len v (List.getElem?_eq_some_iff.1 ho).1 hv fun g hg' => hg g (hG ▸ hg')
      · exact .dead _
  | .nilptr, l, acc, d, rest, acc', vs, h, hi, hr => by
    match l, vs, hr with
    | [], _, _ => simp [decL] at h
    | x :: l, [], hr => exact hr.elim
    | x :: l, v :: vs, hr =>
      simp only [decL] at h
      split at h
      · simp only [Option.some.injEq, Prod.mk.injEq] at h
        obtain ⟨_, rfl, rfl⟩ := h
        exact ⟨[v], vs, rfl, hr.2, .refl _, hi, fun fin A' hfin hA => ⟨hr.1.flat hA.sub rfl, trivial⟩⟩
      · cases h
  | .nilfn, l, acc, d, rest, acc', vs, h, hi, hr => by
    match l, vs, hr with
    | [], _, _ => simp [decL] at h
    | x :: l, [], hr => exact hr.elim
    | x :: l, v :: vs, hr =>
      simp only [decL] at h
      split at h
      · simp only [Option.some.injEq, Prod.mk.injEq] at h
        obtain ⟨_, rfl, rfl⟩ := h
        exact ⟨[v], vs, rfl, hr.2, .refl _, hi, fun fin A' hfin hA => ⟨hr.1.flat hA.sub rfl, trivial⟩⟩
      · cases h
  | .nilmap, l, acc, d, rest, acc', vs, h, hi, hr => by
    match l, vs, hr with
    | [], _, _ => simp [decL] at h
    | x :: l, [], hr => exact hr.elim
    | x :: l, v :: vs, hr =>
      simp only [decL] at h
      split at h
      · simp only [Option.some.injEq, Prod.mk.injEq] at h
        obtain ⟨_, rfl, rfl⟩ := h
        exact ⟨[v], vs, rfl, hr.2, .refl _, hi, fun fin A' hfin hA => ⟨hr.1.flat hA.sub rfl, trivial⟩⟩
      · cases h
  | .nilifc, l, acc, d, rest, acc', vs, h, hi, hr => by
    match l, vs, hr with
    | [], _, _ => simp [decL] at h
    | x :: l, [], hr => exact hr.elim
    | x :: l, v :: vs, hr =>
      simp only [decL] at h
      split at h
      · simp only [Option.some.injEq, Prod.mk.injEq] at h
        obtain ⟨_, rfl, rfl⟩ := h
        exact ⟨[v], vs, rfl, hr.2, .refl _, hi, fun fin A' hfin hA => ⟨hr.1.flat hA.sub rfl, trivial⟩⟩
      · cases h
  | .nilsl, l, acc, d, rest, acc', vs, h, hi, hr => by
    match l, vs, hr with
    | [], _, _ => simp [decL] at h
    | x :: l, [], hr => exact hr.elim
    | x :: l, v :: vs, hr =>
      simp only [decL] at h
      split at h
      · simp only [Option.some.injEq, Prod.mk.injEq] at h
        obtain ⟨_, rfl, rfl⟩ := h
        exact ⟨[v], vs, rfl, hr.2, .refl _, hi, fun fin A' hfin hA => ⟨hr.1.flat hA.sub rfl, trivial⟩⟩
      · cases h
  | .fn f a b, l, acc, d, rest, acc', vs, h, hi, hr => by
    match l, vs, hr with
    | [], _, _ => simp [decL] at h
    | x :: l, [], hr => exact hr.elim
    | x :: l, v :: vs, hr =>
      simp only [decL] at h
      split at h
      · rename_i f' p q
        split at h
        · rename_i hf
          subst hf
          simp only [Option.bind_eq_some_iff] at h
          obtain ⟨⟨y, r1, acc1⟩, h1, h⟩ := h
          split at h
          · rename_i hn1
            simp only at hn1
            subst hn1
            simp only [Option.bind_eq_some_iff] at h
            obtain ⟨⟨z, r2, acc2⟩, h2, h⟩ := h
            split at h
            · rename_i hn2
              simp only at hn2
              subst hn2
              simp only [Option.some.injEq, Prod.mk.injEq] at h
              obtain ⟨rfl, rfl, rfl⟩ := h
              have hx := hr.1
              cases hx with
              | fn _ _ _ vf vc g1 g2 g3 g4 =>
                have hl1 : RepL (avoid F G) w ob.length G p vf.toList := repL_of (by simpa using g1) (fun i hi => by
                  have hi' : i < vf.size := by omega
                  have := g3 i hi
                  simpa [List.getD, Array.getD, hi'] using this)
                have hl2 : RepL (avoid F G) w ob.length G q vc.toList := repL_of (by simpa using g2) (fun i hi => by
                  have hi' : i < vc.size := by omega
                  have := g4 i hi
                  simpa [List.getD, Array.getD, hi'] using this)
                obtain ⟨us1, ws1, e1, r1', le1, in1, k1⟩ := decL_sound inv a p acc y [] acc1 vf.toList h1 hi hl1
                obtain ⟨us2, ws2, e2, r2', le2, in2, k2⟩ := decL_sound inv b q acc1 z [] acc2 vc.toList h2 in1 hl2
                have hw1 := repL_nil r1'
                have hw2 := repL_nil r2'
                subst hw1; subst hw2
                simp only [List.append_nil] at e1 e2
                refine ⟨[_], vs, rfl, hr.2, le1.trans le2, in2, fun fin A' hfin hA => ⟨?_, trivial⟩⟩
                have m1 := k1 fin A' (le2.trans hfin) hA
                have m2 := k2 fin A' hfin hA
                rw [← e1] at m1
                rw [← e2] at m2
                obtain ⟨n1, n2⟩ := repL_index m1
                obtain ⟨n3, n4⟩ := repL_index m2
                show Rep A' w objs.length _ (.fn f' (encL objs id a (PD.fst a.d0 a.u b.u (PD.mk a.u b.u y z))) (encL objs id b (PD.snd b.d0 a.u b.u (PD.mk a.u b.u y z)))) _
                rw [PD_fst _ _ _ _ _ (fun hu => Sh.one a hu _ _), PD_snd _ _ _ _ _ (fun hu => Sh.one b hu _ _)]
                refine .fn _ _ _ vf vc (by simpa using n1) (by simpa using n3) (fun i hi => ?_) (fun i hi => ?_)
                · have hi' : i < vf.size := by rw [n1] at hi; simpa using hi
                  have := n2 i hi
                  simpa [List.getD, Array.getD, hi'] using this
                · have hi' : i < vc.size := by rw [n3] at hi; simpa using hi
                  have := n4 i hi
                  simpa [List.getD, Array.getD, hi'] using this
            · cases h
          · cases h
        · cases h
      · cases h
  | .fsl a, l, acc, d, rest, acc', vs, h, hi, hr => by
    match l, vs, hr with
    | [], _, _ => simp [decL] at h
    | x :: l, [], hr => exact hr.elim
    | x :: l, v :: vs, hr =>
      simp only [decL] at h
      split at h
      · rename_i p
        simp only [Option.bind_eq_some_iff] at h
        obtain ⟨⟨y, r1, acc1⟩, h1, h⟩ := h
        split at h
        · rename_i hn1
          simp only at hn1
          subst hn1
          simp only [Option.some.injEq, Prod.mk.injEq] at h
          obtain ⟨rfl, rfl, rfl⟩ := h
          have hx := hr.1
          cases hx with
          | fsl _ b o cap cs hne hcap hnA hc g3 =>
            have hl1 : RepL (avoid F G) w ob.length G p ((List.range p.length).map cs) := repL_of (by simp) (fun i hi => by
              have := g3 i hi
              simpa [List.getD, hi] using this)
            obtain ⟨us1, ws1, e1, r1', le1, in1, k1⟩ := decL_sound inv a p acc y [] acc1 _ h1 hi hl1
            have hw1 := repL_nil r1'
            subst hw1
            simp only [List.append_nil] at e1
            refine ⟨[_], vs, rfl, hr.2, le1, in1, fun fin A' hfin hA => ⟨?_, trivial⟩⟩
            have m1 := k1 fin A' hfin hA
            rw [← e1] at m1
            obtain ⟨n1, n2⟩ := repL_index m1
            have n1' : (encL objs id a y).length = p.length := by rw [n1]; simp
            show Rep A' w objs.length _ (.fsl (encL objs id a y)) _
            rw [← n1']
            refine .fsl _ b o cap cs (fun e => hne (by rw [e] at n1'; exact List.length_eq_zero_iff.1 n1'.symm)) (by rw [n1']; exact hcap) (fun h => hnA (hA.sub b h)) (fun m hm => hc m (by rw [← n1']; exact hm)) (fun i hi => ?_)
            have hi' : i < p.length := by rw [← n1']; exact hi
            have := n2 i hi
            simpa [List.getD, hi'] using this
        · cases h
      · cases h
  | .nil, l, acc, d, rest, acc', vs, h, hi, hr => by
    simp only [decL, Option.some.injEq, Prod.mk.injEq] at h
    obtain ⟨_, rfl, rfl⟩ := h
    exact ⟨[], vs, rfl, hr, .refl _, hi, fun fin A' hfin hA => trivial⟩
  | .cons a b, l, acc, d, rest, acc', vs, h, hi, hr => by
    simp only [decL, Option.bind_eq_some_iff, Option.some.injEq, Prod.mk.injEq] at h
    obtain ⟨⟨y, r1, acc1⟩, h1, ⟨z, r2, acc2⟩, h2, rfl, rfl, rfl⟩ := h
    obtain ⟨us1, ws1, rfl, hr1, le1, in1, k1⟩ := decL_sound inv a l acc y r1 acc1 vs h1 hi hr
    obtain ⟨us2, ws2, rfl, hr2, le2, in2, k2⟩ := decL_sound inv b r1 acc1 z r2 acc2 ws1 h2 in1 hr1
    refine ⟨us1 ++ us2, ws2, by rw [List.append_assoc], hr2, le1.trans le2, in2, fun fin A' hfin hA => ?_⟩
    show RepL A' w objs.length _ (encL objs id a (PD.fst a.d0 a.u b.u (PD.mk a.u b.u y z)) ++ encL objs id b (PD.snd b.d0 a.u b.u (PD.mk a.u b.u y z))) _
    rw [PD_fst _ _ _ _ _ (fun hu => Sh.one a hu _ _), PD_snd _ _ _ _ _ (fun hu => Sh.one b hu _ _)]
    exact repL_append (k1 fin A' (le2.trans hfin) hA) (k2 fin A' hfin hA)

/-! ### Objects that are read -/

theorem inv_obj {w : World} {G : Gs} {ob : List AO} (inv : Inv F w G ob) {j : Nat} {o : AO} (h : ob.getD j .dead = o) (hne : o ≠ .dead) : j < ob.length ∧ ∃ g, G j = some g ∧ ObjRep (avoid F G) w ob.length G o g := by
  have hj : j < ob.length := by
    rcases Nat.lt_or_ge j ob.length with h1 | h1
    · exact h1
    · exact absurd (by rw [← h]; simp [List.getD, List.getElem?_eq_none h1]) hne
  obtain ⟨g, hg, hobj⟩ := inv.obj hj (by rw [h]; exact hne)
  rw [h] at hobj
  exact ⟨hj, g, hg, hobj⟩

theorem ObjRep.arrFlat {A A' : Nat → Prop} {w : World} {n n' : Nat} {G G' : Gs} (hA : ∀ b, A' b → A b) {T : Ty} {xs : List T.D} {g : Gh} (h : ObjRep A w n G (.arr T xs) g) : ObjRep A' w n' G' (.arr T xs) g := by
  obtain ⟨h1, h2, h3, h4, h5, h6⟩ := h
  refine ⟨h1, h2, h3, h4, h5, fun b hb => ?_⟩
  obtain ⟨C, hrow, hrep⟩ := h6 b hb
  exact ⟨C, hrow, fun i j hi hj => (hrep i j hi hj).flat hA (all_getD (cellsAV_flat T _) (by rw [cellsAV_length]; exact hj))⟩

theorem ObjRep.arrPart {A A' : Nat → Prop} {w : World} {n n' : Nat} {G G' : Gs} (hA : ∀ b, A' b → A b) {T : Ty} {xs : List T.D} {g : Gh} (h : ObjRep A w n G (.arr T xs) g) {off len : Nat} (hle : off + len ≤ g.len) :
    ObjRep A' w n' G' (.arr T ((xs.drop off).take len)) ⟨g.blk, g.base + off * g.size, g.size, len, g.cap - off⟩ := by
  obtain ⟨h1, h2, h3, h4, h5, h6⟩ := h
  have hl : ((xs.drop off).take len).length = len := by simp; omega
  refine ⟨h1, h2, by rw [hl], by rw [hl]; show len ≤ g.cap - off; omega, fun hb => by have := h5 hb; show g.cap - off = 0; omega, fun b hb => ?_⟩
  obtain ⟨C, hrow, hrep⟩ := h6 b hb
  refine ⟨C, ⟨fun o ho => hrow.cells o ?_, fun o ho => hrow.free o ?_⟩, fun i j hi hj => ?_⟩
  · have e : off * g.size + (g.cap - off) * g.size = g.cap * g.size := by rw [← Nat.add_mul]; rw [show off + (g.cap - off) = g.cap by omega]
    simp only at ho; omega
  · have e : off * g.size + (g.cap - off) * g.size = g.cap * g.size := by rw [← Nat.add_mul]; rw [show off + (g.cap - off) = g.cap by omega]
    simp only at ho; omega
  · rw [hl] at hi
    have := hrep (off + i) j (by omega) hj
    have e1 : ((xs.drop off).take len).getD i T.dflt = xs.getD (off + i) T.dflt := by
      simp only [List.getD, List.getElem?_take, List.getElem?_drop]
      rw [if_pos hi]
    rw [e1]
    show Rep _ _ _ _ _ (C (g.base + off * g.size + i * T.size + j))
    have e2 : g.base + off * g.size + i * T.size + j = g.base + (off + i) * T.size + j := by rw [h1, Nat.add_mul]; omega
    rw [e2]
    exact this.flat hA (all_getD (cellsAV_flat T _) (by rw [cellsAV_length]; exact hj))

theorem ObjRep.mapFlat {A A' : Nat → Prop} {w : World} {n n' : Nat} {G G' : Gs} (hA : ∀ b, A' b → A b) {K V : Ty} {es : List (K.D × V.D)} {g : Gh} (h : ObjRep A w n G (.map K V es) g) : ObjRep A' w n' G' (.map K V es) g := by
  obtain ⟨b, ms, clock, h1, h2, h3, h4, h5, h6⟩ := h
  exact ⟨b, ms, clock, h1, h2, h3, h4, fun i hi => (h5 i hi).flatArg hA (toAV_flat K _), fun i hi => (h6 i hi).flatArg hA (toAV_flat V _)⟩

theorem repL_cells {A : Nat → Prop} {w : World} {n : Nat} {G : Gs} {cs : List AV} {C : Nat → Value} (h : ∀ j, j < cs.length → Rep A w n G (cs.getD j .dead) (C j)) : RepL A w n G cs ((List.range cs.length).map C) :=
  repL_of (by simp) fun i hi => by
    have e : ((List.range cs.length).map C).getD i undef = C i := by simp [List.getD, hi]
    rw [e]; exact h i hi

theorem decO_sound {w : World} {G : Gs} {ob : List AO} (inv : Inv F w G ob) {objs : List OT} {o : OT} {i : Nat} {acc acc' : Acc} {d : o.D} (ho : objs[i]? = some o) (h : decO objs ob o i acc = some (d, acc')) (hi : AccInv ob.length G acc) :
    AccLe acc acc' ∧ AccInv ob.length G acc' ∧ ∀ (fin : Acc) (A' : Nat → Prop), AccLe acc' fin → Without F G fin.gone A' →
      (Gn fin.src objs G i = none → encO objs id o d = .dead) ∧ ∀ g, Gn fin.src objs G i = some g → ObjRep A' w objs.length (Gn fin.src objs G) (encO objs id o d) g := by
  cases o with
  | dead =>
    simp only [decO, Option.some.injEq, Prod.mk.injEq] at h
    obtain ⟨_, rfl⟩ := h
    refine ⟨.refl _, hi, fun fin A' hfin hA => ⟨fun _ => rfl, fun g hg => ?_⟩⟩
    have hn : Gn fin.src objs G i = none := by
      cases h1 : fin.src[i]? with
      | none => simp [Gn, h1]
      | some x =>
        cases x with
        | none => simp [Gn, h1]
        | some y => cases y <;> simp [Gn, h1, ho]
    rw [hn] at hg; cases hg
  | arr T =>
    simp only [decO] at h
    split at h
    · rename_i j hsrc
      simp only [Option.bind_eq_some_iff, Option.some.injEq, Prod.mk.injEq] at h
      obtain ⟨xs, hxs, rfl, rfl⟩ := h
      obtain ⟨hj, g0, hg0, hobj⟩ := inv_obj inv (listOf_eq hxs) (by simp)
      refine ⟨.refl _, hi, fun fin A' hfin hA => ?_⟩
      have hG : Gn fin.src objs G i = G j := by simp [Gn, hfin.src _ _ hsrc, ho]
      rw [hG, hg0]
      refine ⟨(fun h => by cases h), fun g hg => ?_⟩
      simp only [Option.some.injEq] at hg
      subst hg
      exact hobj.arrFlat hA.sub
    · rename_i j off len hsrc
      simp only [Option.bind_eq_some_iff, Option.some.injEq, Prod.mk.injEq] at h
      obtain ⟨xs, hxs, rfl, rfl⟩ := h
      obtain ⟨ys, hys, rfl⟩ := listOf_part hxs
      obtain ⟨hj, g0, hg0, hobj⟩ := inv_obj inv hys (by simp)
      refine ⟨.refl _, hi, fun fin A' hfin hA => ?_⟩
      have hG : Gn fin.src objs G i = (G j).map fun g => ⟨g.blk, g.base + off * g.size, g.size, len, g.cap - off⟩ := by simp [Gn, hfin.src _ _ hsrc, ho]
      rw [hG, hg0]
      refine ⟨(fun h => by cases h), fun g hg => ?_⟩
      simp only [Option.map_some, Option.some.injEq] at hg
      subst hg
      exact hobj.arrPart hA.sub (hi.part i j off len hsrc g0 hg0)
    · rename_i hsrc
      split at h
      · rename_i hT
        simp only [Option.some.injEq, Prod.mk.injEq] at h
        obtain ⟨rfl, rfl⟩ := h
        refine ⟨.refl _, hi, fun fin A' hfin hA => ?_⟩
        have hG : Gn fin.src objs G i = some ⟨none, 0, T.size, 0, 0⟩ := by simp [Gn, hfin.src _ _ hsrc, ho]
        rw [hG]
        refine ⟨(fun h => by cases h), fun g hg => ?_⟩
        simp only [Option.some.injEq] at hg
        subst hg
        exact ⟨rfl, hT, rfl, Nat.le_refl _, fun _ => rfl, fun b hb => by cases hb⟩
      · cases h
    · cases h
  | box fs =>
    simp only [decO] at h
    split at h
    · rename_i j hsrc
      split at h
      · rename_i cs hcs
        simp only [Option.bind_eq_some_iff] at h
        obtain ⟨⟨y, r, acc2⟩, h1, h2⟩ := h
        split at h2
        · rename_i hn
          simp only at hn
          subst hn
          simp only [Option.some.injEq, Prod.mk.injEq] at h2
          obtain ⟨rfl, rfl⟩ := h2
          obtain ⟨hj, g0, hg0, hobj⟩ := inv_obj inv hcs (by simp)
          obtain ⟨g1, g2, b, hb, C, hrow, hrep⟩ := hobj
          obtain ⟨us, ws, e1, e2, le, in2, k⟩ := decL_sound inv fs cs acc y [] acc2 _ h1 hi (repL_cells hrep)
          have hw := repL_nil e2
          subst hw
          simp only [List.append_nil] at e1
          refine ⟨le, in2, fun fin A' hfin hA => ?_⟩
          have hG : Gn fin.src objs G i = G j := by simp [Gn, hfin.src _ _ (le.src _ _ hsrc), ho]
          have m := k fin A' hfin hA
          rw [← e1] at m
          obtain ⟨m1, m2⟩ := repL_index m
          simp only [List.length_map, List.length_range] at m1
          rw [hG, hg0]
          refine ⟨(fun h => by cases h), fun g hg => ?_⟩
          simp only [Option.some.injEq] at hg
          subst hg
          refine ⟨g1, by rw [m1]; exact g2, b, hb, C, by rw [m1]; exact hrow, fun q hq => ?_⟩
          have := m2 q hq
          have hq' : q < cs.length := by omega
          have e : ((List.range cs.length).map fun j => C (g0.base + j)).getD q undef = C (g0.base + q) := by simp [List.getD, hq']
          rw [e] at this
          exact this
        · cases h2
      · cases h
    · cases h
  | map K V =>
    simp only [decO] at h
    split at h
    · rename_i j hsrc
      split at h
      · rename_i K' V' es hes
        split at h
        · rename_i he
          obtain ⟨rfl, rfl⟩ := he
          simp only [Option.some.injEq, Prod.mk.injEq] at h
          obtain ⟨rfl, rfl⟩ := h
          obtain ⟨hj, g0, hg0, hobj⟩ := inv_obj inv hes (by simp)
          refine ⟨.refl _, hi, fun fin A' hfin hA => ?_⟩
          have hG : Gn fin.src objs G i = G j := by simp [Gn, hfin.src _ _ hsrc, ho]
          rw [hG, hg0]
          refine ⟨(fun h => by cases h), fun g hg => ?_⟩
          simp only [Option.some.injEq] at hg
          subst hg
          exact hobj.mapFlat hA.sub
        · cases h
      · cases h
    · cases h

theorem encOs_length (objs : List OT) (rn : Nat → Nat) : ∀ (l : List OT) (d : objsD l), (encOs objs rn l d).length = l.length
  | [], _ => rfl
  | o :: r, d => by simp only [encOs, List.length_cons, encOs_length objs rn r]

theorem decOs_sound {w : World} {G : Gs} {ob : List AO} (inv : Inv F w G ob) {objs : List OT} : ∀ (l : List OT) (i : Nat) (acc : Acc) (d : objsD l) (acc' : Acc), (∀ k, objs[i + k]? = l[k]?) → decOs objs ob l i acc = some (d, acc') → AccInv ob.length G acc →
    AccLe acc acc' ∧ AccInv ob.length G acc' ∧ ∀ (fin : Acc) (A' : Nat → Prop), AccLe acc' fin → Without F G fin.gone A' → ∀ k, k < l.length →
      (Gn fin.src objs G (i + k) = none → (encOs objs id l d).getD k .dead = .dead) ∧ ∀ g, Gn fin.src objs G (i + k) = some g → ObjRep A' w objs.length (Gn fin.src objs G) ((encOs objs id l d).getD k .dead) g
  | [], i, acc, d, acc', _, h, hi => by
    simp only [decOs, Option.some.injEq, Prod.mk.injEq] at h
    obtain ⟨_, rfl⟩ := h
    exact ⟨.refl _, hi, fun fin A' _ _ k hk => by cases hk⟩
  | o :: r, i, acc, d, acc', hl, h, hi => by
    simp only [decOs, Option.bind_eq_some_iff, Option.some.injEq, Prod.mk.injEq] at h
    obtain ⟨⟨x, acc1⟩, h1, ⟨y, acc2⟩, h2, rfl, rfl⟩ := h
    have ho : objs[i]? = some o := by have := hl 0; simpa using this
    obtain ⟨le1, in1, k1⟩ := decO_sound inv ho h1 hi
    obtain ⟨le2, in2, k2⟩ := decOs_sound inv r (i + 1) acc1 y acc2 (fun k => by
      have := hl (k + 1)
      rw [show i + 1 + k = i + (k + 1) by omega]
      simpa using this) h2 in1
    refine ⟨le1.trans le2, in2, fun fin A' hfin hA k hk => ?_⟩
    have e : encOs objs id (o :: r) (PD.mk o.u (objsU r) x y) = encO objs id o x :: encOs objs id r y := by
      show encO objs id o (PD.fst o.d0 o.u (objsU r) (PD.mk o.u (objsU r) x y)) :: encOs objs id r (PD.snd (objsD0 r) o.u (objsU r) (PD.mk o.u (objsU r) x y)) = _
      rw [PD_fst _ _ _ _ _ (fun hu => OT.one o hu _ _), PD_snd _ _ _ _ _ (fun hu => objs_one r hu _ _)]
    rw [e]
    cases k with
    | zero => exact k1 fin A' (le2.trans hfin) hA
    | succ k =>
      have := k2 fin A' hfin hA k (by simpa using hk)
      rw [show i + (k + 1) = i + 1 + k by omega]
      simpa using this

/-! ### A state that is read, and written out again -/

theorem Gn_lt {src : List (Option Whence)} {objs : List OT} {G : Gs} {i : Nat} {g : Gh} (h : Gn src objs G i = some g) : i < objs.length := by
  rcases Nat.lt_or_ge i objs.length with h1 | h1
  · exact h1
  · exfalso
    have h2 : objs[i]? = none := List.getElem?_eq_none h1
    unfold Gn at h
    rw [h2] at h
    split at h <;> rename_i e1 e2 <;> first | (cases e2; done) | (cases h; done)

theorem Gn_from {src : List (Option Whence)} {objs : List OT} {G : Gs} {i : Nat} {g : Gh} {b : Nat} (h : Gn src objs G i = some g) (hb : g.blk = some b) :
    ∃ x j g0, src[i]? = some (some x) ∧ x.j = some j ∧ G j = some g0 ∧ g0.blk = some b := by
  unfold Gn at h
  split at h
  · cases h
  · rename_i j o _ h1 h2
    exact ⟨_, j, g, h1, rfl, h, hb⟩
  · rename_i j off len T h1 h2
    simp only [Option.map_eq_some_iff] at h
    obtain ⟨g0, h0, rfl⟩ := h
    exact ⟨_, j, g0, h1, rfl, h0, hb⟩
  · simp only [Option.some.injEq] at h
    subst h; cases hb
  · cases h

theorem read_sound {w : World} {G : Gs} {ob : List AO} (inv : Inv F w G ob) {s : Spec} {xs : List AV} {vs : List Value} {acc fin : Acc} {d : s.D} (h : s.read xs ob acc = some (d, fin)) (hi : AccInv ob.length G acc) (hr : RepL (avoid F G) w ob.length G xs vs) :
    AccLe acc fin ∧ AccInv ob.length G fin ∧ (∀ j, j ∈ fin.own → j ∉ fin.gone) ∧ (∀ b, (Gn fin.src s.objs G).has b → ∃ j g, j ∈ fin.own ∧ G j = some g ∧ g.blk = some b) ∧
    ∀ F' : Nat → Prop, (∀ b, F' b → avoid F G b ∧ ∀ j g, j ∈ fin.gone → G j = some g → g.blk ≠ some b) → (∀ b, F' b → ¬ (Gn fin.src s.objs G).has b) → (∀ b, F' b → b < w.heap.size) →
      Inv F' w (Gn fin.src s.objs G) (encOs s.objs id s.objs (s.objs_ d)) ∧ RepL (avoid F' (Gn fin.src s.objs G)) w s.objs.length (Gn fin.src s.objs G) (encL s.objs id s.vs (s.vs_ d)) vs := by
  unfold Spec.read at h
  simp only [Option.bind_eq_some_iff] at h
  obtain ⟨⟨x, r1, acc1⟩, h1, h⟩ := h
  split at h
  case h_2 => cases h
  rename_i hn
  simp only at hn
  subst hn
  simp only [Option.bind_eq_some_iff] at h
  obtain ⟨⟨y, acc2⟩, h2, h⟩ := h
  split at h
  case h_2 => cases h
  rename_i hap
  simp only [Option.some.injEq, Prod.mk.injEq] at h
  obtain ⟨rfl, rfl⟩ := h
  obtain ⟨us, ws, e1, e2, le1, in1, k1⟩ := decL_sound inv s.vs xs acc x [] acc1 vs h1 hi hr
  have hw := repL_nil e2
  subst hw
  simp only [List.append_nil] at e1
  subst e1
  obtain ⟨le2, in2, k2⟩ := decOs_sound inv s.objs 0 acc1 y acc2 (fun k => by rw [Nat.zero_add]) h2 in1
  have hapart := apart_iff _ _ hap
  have hfrom : ∀ b, (Gn acc2.src s.objs G).has b → ∃ j g, j ∈ acc2.own ∧ G j = some g ∧ g.blk = some b := by
    rintro b ⟨i, g, hg, hb⟩
    obtain ⟨x, j, g0, h1, h2, h3, h4⟩ := Gn_from hg hb
    exact ⟨j, g0, in2.own i x j h1 h2, h3, h4⟩
  refine ⟨le1.trans le2, in2, hapart, hfrom, fun F' hF1 hF2 hF3 => ?_⟩
  have hA : Without F G acc2.gone (avoid F' (Gn acc2.src s.objs G)) := by
    intro b hb
    rcases hb with hb | hb
    · exact hF1 b hb
    · obtain ⟨j, g, hj, hg, hgb⟩ := hfrom b hb
      refine ⟨.inr ⟨j, g, hg, hgb⟩, fun j' g' hj' hg' hgb' => ?_⟩
      have := inv.inj j j' g g' b hg hg' hgb hgb'
      subst this
      exact hapart j hj hj'
  have ho : s.objs_ (PD.mk (objsU s.objs) s.vs.u y x) = y := PD_fst _ _ _ _ _ (fun hu => objs_one _ hu _ _)
  have hv : s.vs_ (PD.mk (objsU s.objs) s.vs.u y x) = x := PD_snd _ _ _ _ _ (fun hu => Sh.one _ hu _ _)
  rw [ho, hv]
  have hlen := encOs_length s.objs id s.objs y
  refine ⟨⟨fun i g hg => by rw [hlen]; exact Gn_lt hg, fun i hi g hg => ?_, fun i hi hn => ?_, fun i i' g g' b hg hg' hb hb' => ?_, fun i g b hg hb => ?_, hF3⟩, k1 acc2 _ le2 hA⟩
  · rw [hlen] at hi ⊢
    have := (k2 acc2 _ (.refl _) hA i hi).2 g (by rw [Nat.zero_add]; exact hg)
    exact this
  · rw [hlen] at hi
    exact (k2 acc2 _ (.refl _) hA i hi).1 (by rw [Nat.zero_add]; exact hn)
  · obtain ⟨x1, j, g1, a1, a2, a3, a4⟩ := Gn_from hg hb
    obtain ⟨x2, j', g2, b1, b2, b3, b4⟩ := Gn_from hg' hb'
    have := inv.inj j j' g1 g2 b a3 b3 a4 b4
    subst this
    exact in2.inj i i' x1 x2 j a1 b1 a2 b2
  · obtain ⟨x1, j, g1, a1, a2, a3, a4⟩ := Gn_from hg hb
    exact ⟨fun hF => hF2 b hF ⟨i, g, hg, hb⟩, (inv.free j g1 b a3 a4).2⟩

theorem startSrc_get (np : Nat) : ∀ (l : List OT) (b i : Nat) (x : Whence), (startSrc np b l)[i]? = some (some x) → x = .obj (b + i) ∧ b + i < np ∧ (b + i) ∈ startOwn np b l
  | [], b, i, x, h => by simp [startSrc] at h
  | o :: r, b, i, x, h => by
    cases i with
    | zero =>
      cases o <;> simp only [startSrc, List.getElem?_cons_zero, Option.some.injEq] at h <;> first | (cases h; done) | (
        split at h
        · rename_i hlt
          cases h
          exact ⟨rfl, hlt, by simp [startOwn, hlt]⟩
        · cases h)
    | succ i =>
      have h' : (startSrc np (b + 1) r)[i]? = some (some x) := by
        cases o <;> simpa only [startSrc, List.getElem?_cons_succ] using h
      obtain ⟨h1, h2, h3⟩ := startSrc_get np r (b + 1) i x h'
      have e : b + (i + 1) = b + 1 + i := by omega
      rw [e]
      refine ⟨h1, h2, ?_⟩
      cases o <;> simp only [startOwn] <;> first | exact h3 | (split <;> first | exact List.mem_cons_of_mem _ h3 | exact h3)

theorem startSrc_len (np : Nat) : ∀ (l : List OT) (b : Nat), (startSrc np b l).length = l.length
  | [], b => rfl
  | o :: r, b => by cases o <;> simp [startSrc, startSrc_len np r]

theorem startSrc_live (np : Nat) : ∀ (l : List OT) (b i : Nat) (o : OT), l[i]? = some o → o ≠ .dead → b + i < np → (startSrc np b l)[i]? = some (some (.obj (b + i)))
  | [], b, i, o, h, _, _ => by simp at h
  | p :: r, b, i, o, h, hne, hlt => by
    cases i with
    | zero =>
      simp only [List.getElem?_cons_zero, Option.some.injEq] at h
      subst h
      cases p <;> first | exact absurd rfl hne | (simp only [startSrc, List.getElem?_cons_zero]; simp only [Nat.add_zero] at hlt; simp [hlt])
    | succ i =>
      have e : b + (i + 1) = b + 1 + i := by omega
      rw [e] at hlt ⊢
      have := startSrc_live np r (b + 1) i o (by simpa using h) hne hlt
      cases p <;> simpa only [startSrc, List.getElem?_cons_succ] using this

theorem start_inv (G : Gs) (np : Nat) (objs : List OT) (m : Nat) (hm : np ≤ m) : AccInv m G (Acc.start np objs) := by
  have hs : ∀ i x, (Acc.start np objs).src[i]? = some (some x) → x = .obj i ∧ i < np ∧ i ∈ (Acc.start np objs).own := by
    intro i x h
    have := startSrc_get np objs 0 i x h
    rw [Nat.zero_add] at this
    exact this
  refine ⟨fun i x j hx hj => ?_, fun i x j hx hj => ?_, fun i i' x x' j hx hx' hj hj' => ?_, fun i j off len hx => ?_⟩
  · obtain ⟨rfl, hlt, _⟩ := hs i x hx
    simp only [Whence.j, Option.some.injEq] at hj
    omega
  · obtain ⟨rfl, hlt, ho⟩ := hs i x hx
    simp only [Whence.j, Option.some.injEq] at hj
    subst hj
    exact ho
  · obtain ⟨rfl, _⟩ := hs i x hx
    obtain ⟨rfl, _⟩ := hs i' x' hx'
    simp only [Whence.j, Option.some.injEq] at hj hj'
    omega
  · obtain ⟨h, _⟩ := hs i _ hx
    cases h

/-- An object that came in is gone or lies where it lay. -/
theorem start_keep {np i : Nat} {objs : List OT} {G : Gs} {fin : Acc} (hle : AccLe (Acc.start np objs) fin) (h : i < np) (hn : i < objs.length) : Gn fin.src objs G i = none ∨ Gn fin.src objs G i = G i := by
  have ho : objs[i]? = some objs[i] := by simp [hn]
  by_cases hd : objs[i] = .dead
  · refine .inl ?_
    unfold Gn
    rw [ho, hd]
    cases h1 : fin.src[i]? with
    | none => rfl
    | some x =>
      cases x with
      | none => rfl
      | some y => cases y <;> rfl
  · have h0 := startSrc_live np objs 0 i _ ho hd (by omega)
    rw [Nat.zero_add] at h0
    have hsrc := hle.src i _ (show (Acc.start np objs).src[i]? = _ from h0)
    unfold Gn
    rw [hsrc, ho]
    cases objs[i] <;> simp

theorem setSlots_length : ∀ (is : List Nat) (xs sl : List AV), (setSlots is xs sl).length = sl.length
  | [], _, _ => by simp [setSlots]
  | _ :: _, [], _ => by simp [setSlots]
  | i :: is, x :: xs, sl => by rw [setSlots, setSlots_length is]; simp

theorem setSlots_rep {A : Nat → Prop} {w : World} {n : Nat} {G : Gs} : ∀ (is : List Nat) (xs sl : List AV) (tmps : Array Value), sl.length = tmps.size → (∀ i, i < sl.length → Rep A w n G (sl.getD i .dead) (tmps.getD i undef)) →
    RepL A w n G xs (is.map fun i => tmps.getD i undef) → ∀ i, i < sl.length → Rep A w n G ((setSlots is xs sl).getD i .dead) (tmps.getD i undef)
  | [], xs, sl, tmps, _, h, _, i, hi => by simpa [setSlots] using h i hi
  | _ :: _, [], sl, tmps, _, h, hr, i, hi => hr.elim
  | k :: is, x :: xs, sl, tmps, hl, h, hr, i, hi => by
    rw [setSlots]
    refine setSlots_rep is xs (sl.set k x) tmps (by simpa using hl) (fun q hq => ?_) hr.2 i (by simpa using hi)
    simp only [List.length_set] at hq
    by_cases e : k = q
    · subst e
      have e1 : (sl.set k x).getD k .dead = x := by simp [List.getD, hq]
      rw [e1]; exact hr.1
    · have e1 : (sl.set k x).getD q .dead = sl.getD q .dead := by simp [List.getD, e]
      rw [e1]; exact h q hq

end
end Go.Proofs.YtlbammfnkphajaaGreatDoor.Abs
