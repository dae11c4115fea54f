/- The operations on memory: loads, stores, addresses, slices. -/
import Derived.Test.YtlbammfnkphajaaGreatDoorAbsOpsA
import Derived.Laws.IdiomCopy
import Derived.Laws.MakeOwn
import Derived.Below
namespace Go.Proofs.YtlbammfnkphajaaGreatDoor.Abs
open Go

/-! ### Lists of cells -/

theorem cellsAV_length : ∀ (T : Ty) (v : T.D), (cellsAV T v).length = T.size
  | .int _, _ => rfl
  | .bool, _ => rfl
  | .str, _ => rfl
  | .sl _, _ => rfl
  | .pair a b, v => by simp [cellsAV, Ty.size, cellsAV_length a, cellsAV_length b]
  | .st a, v => by simp only [cellsAV, Ty.size]; exact cellsAV_length a v
  | .unit, _ => rfl
  | .ptr _, _ => rfl
  | .map _ _, _ => rfl
  | .nsl _, _ => rfl

theorem setCells_length : ∀ (vs cs : List AV) (n : Nat), (setCells cs n vs).length = cs.length
  | [], _, _ => rfl
  | v :: vs, cs, n => by rw [setCells, setCells_length vs]; simp

theorem setCells_get : ∀ (vs cs : List AV) (n j : Nat), n + vs.length ≤ cs.length →
    (setCells cs n vs).getD j .dead = if n ≤ j ∧ j < n + vs.length then vs.getD (j - n) .dead else cs.getD j .dead
  | [], cs, n, j, _ => by rw [setCells, if_neg (by simp)]
  | v :: vs, cs, n, j, h => by
    simp only [List.length_cons] at h
    rw [setCells, setCells_get vs (cs.set n v) (n + 1) j (by simp; omega)]
    by_cases h1 : j = n
    · subst h1
      rw [if_neg (by omega), if_pos (by simp)]
      have : j < cs.length := by omega
      simp [List.getD, this]
    · by_cases h2 : n + 1 ≤ j ∧ j < n + 1 + vs.length
      · rw [if_pos h2, if_pos (by simp; omega)]
        rw [show j - n = (j - (n + 1)) + 1 by omega, List.getD_cons_succ]
      · rw [if_neg h2, if_neg (by simp; omega)]
        have : n ≠ j := fun e => h1 e.symm
        simp [List.getD, this]

theorem isOther_false {q : TK} (h : q.isOther = false) : q ≠ .other := by
  intro e; subst e; cases h
theorem isOther_not {q : TK} (h : ¬ q.isOther = true) : q ≠ .other := by
  intro e; subst e; exact h rfl

/-! ### Parts of data -/

section
variable {A : Nat → Prop} {w : World} {n : Nat} {G : Gs} {P : Program} {TT : Nat → TI} {ρ : Type} {k : AV → Option ρ} {r : ρ}

theorem loadCs_sound (tt : TTok P TT) {t sub b o : Nat} {cs : List AV} {c : Nat → Value} (e : loadCs TT t sub cs k = some r)
    (hc : ∀ j, j < cs.length → w.cell? ⟨b, o + j, none⟩ = some (c j)) (hr : ∀ j, j < cs.length → Rep A w n G (cs.getD j .dead) (c j)) :
    ∃ v z, k v = some r ∧ Rep A w n G v z ∧ (Instr.loadAt t (.pointer (some ⟨b, o + sub, none⟩))).run P w = .ok z w := by
  unfold loadCs at e
  split at e
  · cases e
  · rename_i h1
    have hk := isOther_not h1
    by_cases h2 : sub + (if (TT t).kind.isAgg = true then (TT t).size else 1) ≤ cs.length
    · rw [if_pos h2] at e
      have hag := tt_agg tt hk w
      have hsz := tt_size tt hk w
      generalize (TT t).kind.isAgg = ag at *
      generalize (TT t).size = size at *
      cases ag
      · simp only [Bool.false_eq_true, if_false] at h2
        refine ⟨_, c sub, e, ?_, ?_⟩
        · simp only [partAV, Bool.false_eq_true, if_false]; exact hr sub (by omega)
        · simp [Instr.loadAt, Instr.sureAddr, loadVar, hag, hc sub (by omega)]
      · simp only [if_true] at h2
        refine ⟨_, .agg ((List.range size).map fun j => c (sub + j)).toArray, e, ?_, ?_⟩
        · simp only [partAV, if_true]
          refine .agg _ _ (by simp; omega) fun i hi => ?_
          have hi' : i < size := by simp at hi; omega
          have e1 : ((cs.drop sub).take size).getD i .dead = cs.getD (sub + i) .dead := by simp [List.getD, hi']
          have e2 : (((List.range size).map fun j => c (sub + j)).toArray).getD i undef = c (sub + i) := by simp [Array.getD, hi']
          rw [e1, e2]; exact hr _ (by omega)
        · have hl := run_loadCells (P := P) w ⟨b, o + sub, none⟩ size (fun j => c (sub + j)) (fun j hj => by
            rw [Addr.add_lit, Nat.add_assoc]; exact hc _ (by omega))
          simp [Instr.loadAt, Instr.sureAddr, loadVar, hag, hsz, hl]
    · rw [if_neg h2] at e; cases e

theorem part_sound (tt : TTok P TT) {t sub : Nat} {cs : List AV} {vs : Array Value} (e : loadCs TT t sub cs k = some r)
    (hl : cs.length = vs.size) (hr : ∀ j, j < cs.length → Rep A w n G (cs.getD j .dead) (vs.getD j undef)) :
    ∃ v z, k v = some r ∧ Rep A w n G v z ∧ (part t vs sub).run P w = .ok z w := by
  unfold loadCs at e
  split at e
  · cases e
  · rename_i h1
    have hk := isOther_not h1
    by_cases h2 : sub + (if (TT t).kind.isAgg = true then (TT t).size else 1) ≤ cs.length
    · rw [if_pos h2] at e
      have hag := tt_agg tt hk w
      have hsz := tt_size tt hk w
      generalize (TT t).kind.isAgg = ag at *
      generalize (TT t).size = size at *
      cases ag
      · simp only [Bool.false_eq_true, if_false] at h2
        have hlt : sub < vs.size := by omega
        refine ⟨_, vs.getD sub undef, e, ?_, ?_⟩
        · simp only [partAV, Bool.false_eq_true, if_false]; exact hr sub (by omega)
        · simp [part, hag, Array.getD, hlt]
      · simp only [if_true] at h2
        refine ⟨_, .agg (vs.extract sub (sub + size)), e, ?_, ?_⟩
        · simp only [partAV, if_true]
          refine .agg _ _ (by simp; omega) fun i hi => ?_
          have hi' : i < size := by simp at hi; omega
          have hlt : sub + i < vs.size := by omega
          have e1 : ((cs.drop sub).take size).getD i .dead = cs.getD (sub + i) .dead := by simp [List.getD, hi']
          have e2 : (vs.extract sub (sub + size)).getD i undef = vs.getD (sub + i) undef := by
            have h3 : i < min (sub + size) vs.size - sub := by omega
            simp [Array.getD, hlt, h3]
          rw [e1, e2]; exact hr _ (by omega)
        · simp [part, hag, hsz]
    · rw [if_neg h2] at e; cases e

theorem fieldK_sound (tt : TTok P TT) {s f : Nat} {x : AV} {a : Value} (e : fieldK TT s x f k = some r) (hx : Rep A w n G x a) :
    ∃ v z, k v = some r ∧ Rep A w n G v z ∧ (Instr.field s a f).run P w = .ok z w := by
  unfold fieldK at e
  split at e
  · rename_i ft off hf
    split at e
    · cases hx
      rename_i cs vs hl hr
      obtain ⟨v, z, h1, h2, h3⟩ := part_sound (A := A) (n := n) (G := G) (w := w) tt e hl hr
      refine ⟨v, z, h1, h2, ?_⟩
      unfold fieldAt at hf
      split at hf
      · rename_i fs hk
        obtain ⟨fields, hu, hm⟩ := tt_st tt hk
        have hfl : ∃ fd, fields[f]? = some fd ∧ fd.type = ft ∧ fd.offset = off := by
          rw [← hm, List.getElem?_map] at hf
          cases hq : fields.toList[f]? with
          | none => rw [hq] at hf; cases hf
          | some fd =>
            rw [hq] at hf
            simp only [Option.map_some, Option.some.injEq, Prod.mk.injEq] at hf
            exact ⟨fd, by simpa using hq, hf.1, hf.2⟩
        obtain ⟨fd, h4, h5, h6⟩ := hfl
        subst h5; subst h6
        simp [Instr.field, run_underlying hu, h4, asAgg, h3]
      · cases hf
    · cases e
  · cases e
end

/-! ### Objects -/

theorem Row.stays {w w' : World} {b k : Nat} {C : Nat → Value} (h : Row w b k C) (hb : w'.heap[b]? = w.heap[b]?) : Row w' b k C :=
  ⟨fun o ho => (cell_block (a := ⟨b, o, none⟩) hb).trans (h.cells o ho), fun o ho => (frozen_block (a := ⟨b, o, none⟩) hb).trans (h.free o ho)⟩

theorem ObjRep.stays {A A' : Nat → Prop} {w w' : World} {n n' : Nat} {G G' : Gs} (s : Stays A w n G A' w' n' G') {o : AO} {g : Gh} (h : ObjRep A w n G o g)
    (hb : ∀ b, g.blk = some b → w'.heap[b]? = w.heap[b]?) : ObjRep A' w' n' G' o g := by
  cases o with
  | dead => exact h
  | arr T xs =>
    obtain ⟨h1, h2, h3, h4, h5, h6⟩ := h
    refine ⟨h1, h2, h3, h4, h5, fun b hgb => ?_⟩
    obtain ⟨C, hrow, hrep⟩ := h6 b hgb
    exact ⟨C, hrow.stays (hb b hgb), fun i j hi hj => (hrep i j hi hj).stays s⟩
  | box cs =>
    obtain ⟨h1, h2, b, hgb, C, hrow, hrep⟩ := h
    exact ⟨h1, h2, b, hgb, C, hrow.stays (hb b hgb), fun j hj => (hrep j hj).stays s⟩
  | map K V es =>
    obtain ⟨b, ms, clock, h1, h2, h0, h3, h4, h5⟩ := h
    exact ⟨b, ms, clock, h1, (hb b h1).trans h2, h0, h3, fun i hi => (h4 i hi).stays s, fun i hi => (h5 i hi).stays s⟩

theorem Inv.next {F : Nat → Prop} {w w' : World} {G G' : Gs} {ob ob' : List AO} (inv : Inv F w G ob) (t : Trans ob.length w G w' G') (hl : ob.length ≤ ob'.length)
    (hobj : ∀ i g, G' i = some g → (i < ob.length ∧ G i = some g ∧ ob'.getD i .dead = ob.getD i .dead ∧ ∀ b, g.blk = some b → w'.heap[b]? = w.heap[b]?) ∨
      (i < ob'.length ∧ ObjRep (avoid F G') w' ob'.length G' (ob'.getD i .dead) g))
    (hnone : ∀ i, i < ob'.length → G' i = none → ob'.getD i .dead = .dead)
    (hinj : ∀ i j g h b, G' i = some g → G' j = some h → g.blk = some b → h.blk = some b → i = j)
    (hfree : ∀ j g b, G' j = some g → g.blk = some b → ¬ F b ∧ b < w'.heap.size) : Inv F w' G' ob' where
  dom j g hg := by
    rcases hobj j g hg with ⟨h, _⟩ | ⟨h, _⟩
    · exact Nat.lt_of_lt_of_le h hl
    · exact h
  live j hj g hg := by
    rcases hobj j g hg with ⟨h1, h2, h3, h4⟩ | ⟨_, h⟩
    · rw [h3]; exact (inv.live j h1 g h2).stays (t.stays hl) h4
    · exact h
  there := hnone
  inj := hinj
  free := hfree
  old b hb := Nat.lt_of_lt_of_le (inv.old b hb) t.size

/-! #### A store into an object -/

theorem heap_setCells (b : Nat) : ∀ (vs : List Value) (o : Nat) (w : World) (c : Nat), c ≠ b → (w.setCells b o vs).heap[c]? = w.heap[c]?
  | [], _, _, _, _ => rfl
  | v :: vs, o, w, c, h => by
    rw [World.setCells, heap_setCells b vs _ _ c h]
    exact RowKit.Below.heap_setCell w ⟨b, o, none⟩ v c h

theorem size_setCells (b : Nat) : ∀ (vs : List Value) (o : Nat) (w : World), (w.setCells b o vs).heap.size = w.heap.size
  | [], _, _ => rfl
  | v :: vs, o, w => by rw [World.setCells, size_setCells b vs]; simp

theorem rest_setCells (b : Nat) : ∀ (vs : List Value) (o : Nat) (w : World), (w.setCells b o vs).os = w.os ∧ (w.setCells b o vs).tape = w.tape ∧ (w.setCells b o vs).output = w.output
  | [], _, _ => ⟨rfl, rfl, rfl⟩
  | v :: vs, o, w => by
    rw [World.setCells]
    obtain ⟨h1, h2, h3⟩ := rest_setCells b vs (o + 1) (w.setCell ⟨b, o, none⟩ v)
    exact ⟨h1, h2, h3⟩

theorem trans_setCells {n : Nat} {w : World} {G : Gs} {b o : Nat} {vs : List Value} (hb : G.has b) : Trans n w G (w.setCells b o vs) G where
  os := (rest_setCells b vs o w).1
  tape := (rest_setCells b vs o w).2.1
  output := (rest_setCells b vs o w).2.2
  size := by rw [size_setCells]; exact Nat.le_refl _
  frame c _ h := heap_setCells b vs o w c fun e => h (e ▸ hb)
  own c h := .inl h
  keep j _ := .inr rfl

theorem Row.set {w : World} {b k : Nat} {C : Nat → Value} (h : Row w b k C) {o : Nat} {vs : List Value} (ho : o + vs.length ≤ k) :
    Row (w.setCells b o vs) b k (fun i => if o ≤ i ∧ i < o + vs.length then vs.getD (i - o) undef else C i) := by
  refine ⟨fun i hi => ?_, fun i hi => by rw [World.frozen?_setCells]; exact h.free i hi⟩
  by_cases hin : o ≤ i ∧ i < o + vs.length
  · rw [if_pos hin]
    have := World.cell?_setCells_in b vs o w (fun j hj => by rw [h.cells (o + j) (by omega)]; rfl) (i - o) (by omega)
    rw [show o + (i - o) = i by omega] at this
    rw [this]
    have hlt : i - o < vs.length := by omega
    simp [List.getD, hlt]
  · rw [if_neg hin, ← h.cells i hi]
    exact World.cell?_setCells_out b vs o w ⟨b, i, none⟩ (fun j hj => by
      first
        | exact Or.inr (by simp; omega)
        | (simp; omega))

theorem Row.set' {w : World} {b k : Nat} {C : Nat → Value} (h : Row w b k C) {o : Nat} {vs : List Value} (ho : o + vs.length ≤ k) :
    ∃ C', Row (w.setCells b o vs) b k C' ∧ (∀ m, m < vs.length → C' (o + m) = vs.getD m undef) ∧ ∀ i, ¬ (o ≤ i ∧ i < o + vs.length) → C' i = C i := by
  refine ⟨_, h.set ho, fun m hm => ?_, fun i hi => if_neg hi⟩
  show (if _ then _ else _) = _
  rw [if_pos (by omega), Nat.add_sub_cancel_left]

theorem Inv.setObj {F : Nat → Prop} {w w' : World} {G : Gs} {ob : List AO} (inv : Inv F w G ob) {j : Nat} {g : Gh} {b : Nat} (hg : G j = some g) (hb : g.blk = some b)
    (t : Trans ob.length w G w' G) (hw : ∀ c, c ≠ b → w'.heap[c]? = w.heap[c]?) {o : AO} (hobj : ObjRep (avoid F G) w' ob.length G o g) : Inv F w' G (ob.set j o) := by
  have hj := inv.dom j g hg
  refine inv.next t (by simp) (fun i h hh => ?_) (fun i hi hn => ?_) inv.inj (fun i h c hh hc => ⟨(inv.free i h c hh hc).1, Nat.lt_of_lt_of_le (inv.free i h c hh hc).2 t.size⟩)
  · by_cases e : i = j
    · subst e
      rw [hg] at hh; cases hh
      right
      refine ⟨by simpa using hj, ?_⟩
      have e1 : (ob.set i o).getD i .dead = o := by simp [List.getD, hj]
      rw [e1]; simpa using hobj
    · left
      have e' : j ≠ i := fun h => e h.symm
      refine ⟨inv.dom i h hh, hh, by simp [List.getD, e'], fun c hc => hw c fun e2 => ?_⟩
      subst e2
      exact e (inv.inj i j h g c hh hg hc hb)
  · have hij : i ≠ j := by intro e; subst e; rw [hg] at hn; cases hn
    have e' : j ≠ i := fun h => hij h.symm
    have := inv.there i (by simpa using hi) hn
    simpa [List.getD, e'] using this

end Go.Proofs.YtlbammfnkphajaaGreatDoor.Abs
