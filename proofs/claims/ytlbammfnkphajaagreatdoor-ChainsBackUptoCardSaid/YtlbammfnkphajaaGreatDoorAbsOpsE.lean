/- New memory: makes, literals, boxes, conversions, appends. -/
import Derived.Test.YtlbammfnkphajaaGreatDoorAbsOpsD
import Derived.Laws.Append
import Derived.Lib.ConvBytes
import Derived.Laws.BytesString
namespace Go.Proofs.YtlbammfnkphajaaGreatDoor.Abs
open Go

section
variable {F : Nat → Prop} {w : World} {G : Gs} {ob : List AO} {P : Program} {TT : Nat → TI} {ρ : Type} {r : ρ} {A : Nat → Prop} {n : Nat}

/-! ### A new object, where one may be gone -/

def killL (kj : Option Nat) (ob : List AO) : List AO :=
  match kj with
  | none => ob
  | some j => ob.set j .dead

def Gs.push (G : Gs) (n : Nat) (kj : Option Nat) (g : Gh) : Gs := fun i => if i = n then some g else if kj = some i then none else G i

theorem killL_length (kj : Option Nat) (ob : List AO) : (killL kj ob).length = ob.length := by cases kj <;> simp [killL]

theorem killL_get {kj : Option Nat} {ob : List AO} {i : Nat} (h : kj ≠ some i) : (killL kj ob).getD i .dead = ob.getD i .dead := by
  cases kj with
  | none => rfl
  | some j =>
    have : j ≠ i := fun e => h (by rw [e])
    simp [killL, List.getD, this]

theorem Inv.push (inv : Inv F w G ob) {w' : World} (kj : Option Nat) (g : Gh) (o : AO) (hos : w'.os = w.os) (hta : w'.tape = w.tape) (hou : w'.output = w.output)
    (hsz : w.heap.size ≤ w'.heap.size) (hfr : ∀ b, b < w.heap.size → g.blk ≠ some b → w'.heap[b]? = w.heap[b]?)
    (hg : ∀ b, g.blk = some b → b < w'.heap.size ∧ (w.heap.size ≤ b ∨ ∃ j gj, kj = some j ∧ G j = some gj ∧ gj.blk = some b))
    (hobj : Stays (avoid F G) w ob.length G (avoid F (G.push ob.length kj g)) w' (ob.length + 1) (G.push ob.length kj g) →
      ObjRep (avoid F (G.push ob.length kj g)) w' (ob.length + 1) (G.push ob.length kj g) o g) :
    Inv F w' (G.push ob.length kj g) (killL kj ob ++ [o]) ∧ Trans ob.length w G w' (G.push ob.length kj g) ∧ (killL kj ob ++ [o]).length = ob.length + 1 := by
  have hlen : (killL kj ob ++ [o]).length = ob.length + 1 := by simp [killL_length]
  have hold : ∀ i h, (G.push ob.length kj g) i = some h → i ≠ ob.length → kj ≠ some i ∧ G i = some h := by
    intro i h hh hi
    simp only [Gs.push, if_neg hi] at hh
    split at hh
    · cases hh
    · rename_i hk; exact ⟨hk, hh⟩
  have hblk : ∀ i h b, i ≠ ob.length → (G.push ob.length kj g) i = some h → h.blk = some b → g.blk ≠ some b := by
    intro i h b hi hh hb hgb
    obtain ⟨h1, h2⟩ := hold i h hh hi
    rcases (hg b hgb).2 with h3 | ⟨j, gj, rfl, h4, h5⟩
    · have := (inv.free i h b h2 hb).2; omega
    · exact h1 (by rw [inv.inj i j h gj b h2 h4 hb h5])
  have ht : Trans ob.length w G w' (G.push ob.length kj g) := by
    refine ⟨hos, hta, hou, hsz, fun b hb hn => hfr b hb fun e => ?_, fun b hb => ?_, fun j hj => ?_⟩
    · rcases (hg b e).2 with h3 | ⟨j, gj, _, h4, h5⟩
      · omega
      · exact hn ⟨j, gj, h4, h5⟩
    · obtain ⟨j, h, hh, hb'⟩ := hb
      by_cases hj : j = ob.length
      · subst hj
        simp only [Gs.push, if_true, Option.some.injEq] at hh
        subst hh
        rcases (hg b hb').2 with h3 | ⟨j, gj, _, h4, h5⟩
        · exact .inr h3
        · exact .inl ⟨j, gj, h4, h5⟩
      · exact .inl ⟨j, h, (hold j h hh hj).2, hb'⟩
    · have : j ≠ ob.length := by omega
      simp only [Gs.push, if_neg this]
      split
      · exact .inl rfl
      · exact .inr rfl
  refine ⟨inv.next ht (by omega) (fun i h hh => ?_) (fun i hi hn => ?_) (fun i j h h' b hi hj hb hb' => ?_) (fun j h b hj hb => ?_), ht, hlen⟩
  · by_cases hi : i = ob.length
    · subst hi
      have e : g = h := by simpa [Gs.push] using hh
      subst e
      right
      have e1 : (killL kj ob ++ [o]).getD ob.length .dead = o := by simp [List.getD, killL_length]
      rw [hlen, e1]
      exact ⟨by omega, hobj (ht.stays (by omega))⟩
    · obtain ⟨h1, h2⟩ := hold i h hh hi
      have hi' := inv.dom i h h2
      left
      refine ⟨hi', h2, ?_, fun b hb => ?_⟩
      · have : (killL kj ob ++ [o]).getD i .dead = (killL kj ob).getD i .dead := by simp [List.getD, List.getElem?_append, killL_length, hi']
        rw [this, killL_get h1]
      · exact hfr b (inv.free i h b h2 hb).2 (hblk i h b hi hh hb)
  · rw [hlen] at hi
    by_cases hi2 : i = ob.length
    · subst hi2; simp [Gs.push] at hn
    · have hi' : i < ob.length := by omega
      have : (killL kj ob ++ [o]).getD i .dead = (killL kj ob).getD i .dead := by simp [List.getD, List.getElem?_append, killL_length, hi']
      rw [this]
      simp only [Gs.push, if_neg hi2] at hn
      split at hn
      · rename_i hk
        subst hk
        simp [killL, List.getD, hi']
      · rename_i hk
        rw [killL_get hk]; exact inv.there i hi' hn
  · by_cases h1 : i = ob.length
    · by_cases h2 : j = ob.length
      · omega
      · subst h1
        have e : g = h := by simpa [Gs.push] using hi
        subst e
        exact absurd hb (hblk j h' b h2 hj hb')
    · by_cases h2 : j = ob.length
      · subst h2
        have e : g = h' := by simpa [Gs.push] using hj
        subst e
        exact absurd hb' (hblk i h b h1 hi hb)
      · exact inv.inj i j h h' b (hold i h hi h1).2 (hold j h' hj h2).2 hb hb'
  · by_cases h1 : j = ob.length
    · subst h1
      have e : g = h := by simpa [Gs.push] using hj
      subst e
      refine ⟨fun hF => ?_, (hg b hb).1⟩
      rcases (hg b hb).2 with h3 | ⟨j, gj, _, h4, h5⟩
      · have := inv.old b hF; omega
      · exact (inv.free j gj b h4 h5).1 hF
    · have h2 := (hold j h hj h1).2
      exact ⟨(inv.free j h b h2 hb).1, Nat.lt_of_lt_of_le (inv.free j h b h2 hb).2 hsz⟩

/-- The world has grown, the objects are as they were. -/
theorem Inv.grow (inv : Inv F w G ob) {w' : World} (hos : w'.os = w.os) (hta : w'.tape = w.tape) (hou : w'.output = w.output)
    (hsz : w.heap.size ≤ w'.heap.size) (hfr : ∀ b, b < w.heap.size → w'.heap[b]? = w.heap[b]?) : Inv F w' G ob ∧ Trans ob.length w G w' G := by
  have ht : Trans ob.length w G w' G := ⟨hos, hta, hou, hsz, fun b hb _ => hfr b hb, fun b hb => .inl hb, fun j _ => .inr rfl⟩
  refine ⟨inv.next ht (Nat.le_refl _) (fun i g hg => .inl ⟨inv.dom i g hg, hg, rfl, fun b hb => hfr b (inv.free i g b hg hb).2⟩) inv.there inv.inj
    (fun j g b hg hb => ⟨(inv.free j g b hg hb).1, Nat.lt_of_lt_of_le (inv.free j g b hg hb).2 hsz⟩), ht⟩

/-! ### Rows of a new block -/

theorem alloc_row (w : World) (C : Array Value) (e : TypeId) : Row (w.alloc (.cells C e)) w.heap.size C.size (fun i => C.getD i undef) :=
  ⟨fun o ho => by rw [World.cell?_alloc_new]; simp [Array.getD, ho], fun o ho => by rw [World.frozen?_alloc_new]⟩

theorem heap_alloc_old (w : World) (o : Obj) (b : Nat) (hb : b < w.heap.size) : (w.alloc o).heap[b]? = w.heap[b]? := RowKit.Below.heap_alloc w o b hb

/-- Data in the cells of an array: 'vs' is the cells of xs, one element behind the other. -/
def Cells (A : Nat → Prop) (w : World) (n : Nat) (G : Gs) (T : Ty) (xs : List T.D) (vs : Nat → Value) : Prop :=
  ∀ i j, i < xs.length → j < T.size → Rep A w n G ((cellsAV T (xs.getD i T.dflt)).getD j .dead) (vs (i * T.size + j))

theorem Cells.stays {A' : Nat → Prop} {w' : World} {n' : Nat} {G' : Gs} (s : Stays A w n G A' w' n' G') {T : Ty} {xs : List T.D} {vs : Nat → Value} (h : Cells A w n G T xs vs) : Cells A' w' n' G' T xs vs :=
  fun i j hi hj => (h i j hi hj).stays s

/-- A new array object out of a new block. -/
theorem new_arr (inv : Inv F w G ob) {T : Ty} {xs : List T.D} (w1 : World) (h1 : w1 = w ∨ w1 = w.drew) (C : Array Value) (e : TypeId) (cap : Nat) (hT : 0 < T.size) (hcap : xs.length ≤ cap) (hC : C.size = cap * T.size)
    (hx : Cells (avoid F G) w ob.length G T xs (fun i => C.getD i undef)) (kj : Option Nat) :
    ∃ G', Inv F (w1.alloc (.cells C e)) G' (killL kj ob ++ [AO.arr T xs]) ∧ Trans ob.length w G (w1.alloc (.cells C e)) G' ∧ (killL kj ob ++ [AO.arr T xs]).length = ob.length + 1 ∧
      Rep (avoid F G') (w1.alloc (.cells C e)) (ob.length + 1) G' (.slw ob.length) (.slice (some ⟨w.heap.size, 0, none⟩) xs.length cap) := by
  have hw : w1.heap.size = w.heap.size ∧ w1.os = w.os ∧ w1.tape = w.tape ∧ w1.output = w.output ∧ w1.heap = w.heap := by
    rcases h1 with rfl | rfl <;> exact ⟨rfl, rfl, rfl, rfl, rfl⟩
  obtain ⟨hw1, hw2, hw3, hw4, hw5⟩ := hw
  let g : Gh := ⟨some w.heap.size, 0, T.size, xs.length, cap⟩
  have hp := inv.push (w' := w1.alloc (.cells C e)) kj g (.arr T xs) hw2 hw3 hw4 (by simp [hw1])
    (fun b hb _ => by rw [heap_alloc_old w1 _ b (by omega), hw5]) (fun b hb => by
      have : w.heap.size = b := by simpa [g] using hb
      subst this
      exact ⟨by simp [hw1], .inl (Nat.le_refl _)⟩)
    (fun st => by
      refine ⟨rfl, hT, rfl, hcap, (fun h => by cases h), fun b hb => ?_⟩
      have : w.heap.size = b := by simpa [g] using hb
      subst this
      refine ⟨fun i => C.getD i undef, ?_, fun i j hi hj => ?_⟩
      · have := alloc_row w1 C e
        rw [hw1, hC] at this
        simpa [g] using this
      · have := (hx i j hi hj).stays st
        simpa [g] using this)
  refine ⟨_, hp.1, hp.2.1, hp.2.2, .slw _ _ (by omega) ⟨_, _, _, rfl⟩ fun g' hg' => ?_⟩
  have e1 : g = g' := by simpa [Gs.push] using hg'
  subst e1
  exact ⟨_, cap, rfl, by simp [g], by simpa using hcap, by simp [g], fun _ => by simp [Gh.addr, g]⟩

/-! ### Makes and literals -/

theorem zero_rep : ∀ (T : Ty) (z : List Value), zeroOk T z = true → z.length = T.size ∧ ∀ j, j < T.size → Rep A w n G ((cellsAV T T.dflt).getD j .dead) (z.getD j undef)
  | .int k, z, h => by
    match z with
    | [.int k' m] =>
      simp only [zeroOk, Bool.and_eq_true, decide_eq_true_eq] at h
      obtain ⟨rfl, rfl⟩ := h
      refine ⟨rfl, fun j hj => ?_⟩
      have : j = 0 := by simpa [Ty.size] using hj
      subst this; exact .int _ _
  | .bool, z, h => by
    match z with
    | [.bool b] =>
      have hb : b = false := by simpa [zeroOk] using h
      subst hb
      refine ⟨rfl, fun j hj => ?_⟩
      have : j = 0 := by simpa [Ty.size] using hj
      subst this; exact .bool _
  | .str, z, h => by
    match z with
    | [.string s] =>
      have hs : s.data.toList = [] := by simpa [zeroOk] using h
      refine ⟨rfl, fun j hj => ?_⟩
      have : j = 0 := by simpa [Ty.size] using hj
      subst this
      have e : s = ⟨([] : List UInt8).toArray⟩ := by
        cases s with
        | mk d => cases d; simp at hs; subst hs; rfl
      show Rep A w n G (.str []) (.string s)
      rw [e]; exact .str []
  | .sl e, z, h => by
    match z with
    | [.slice none 0 c] =>
      refine ⟨rfl, fun j hj => ?_⟩
      have : j = 0 := by simpa [Ty.size] using hj
      subst this; exact .islE _ _ _
  | .pair a b, z, h => by
    simp only [zeroOk, Bool.and_eq_true] at h
    obtain ⟨h1, h2⟩ := zero_rep a _ h.1
    obtain ⟨h3, h4⟩ := zero_rep b _ h.2
    simp only [List.length_take, List.length_drop] at h1 h3
    refine ⟨by simp only [Ty.size]; omega, fun j hj => ?_⟩
    simp only [Ty.size] at hj
    have hl := cellsAV_length a a.dflt
    by_cases hlt : j < a.size
    · have e1 : (cellsAV (.pair a b) (Ty.pair a b).dflt).getD j .dead = (cellsAV a a.dflt).getD j .dead := by
        simp [cellsAV, Ty.dflt, List.getD, List.getElem?_append, hl, hlt]
      have e2 : (z.take a.size).getD j undef = z.getD j undef := by simp [List.getD, hlt]
      rw [e1, ← e2]; exact h2 j hlt
    · have e1 : (cellsAV (.pair a b) (Ty.pair a b).dflt).getD j .dead = (cellsAV b b.dflt).getD (j - a.size) .dead := by
        simp [cellsAV, Ty.dflt, List.getD, List.getElem?_append, hl, hlt]
      have e2 : (z.drop a.size).getD (j - a.size) undef = z.getD j undef := by
        simp only [List.getD, List.getElem?_drop]
        rw [show a.size + (j - a.size) = j by omega]
      rw [e1, ← e2]; exact h4 _ (by omega)
  | .st a, z, h => zero_rep a z (by simpa [zeroOk] using h)
  | .nsl e, z, h => by
    match z with
    | [.slice none 0 0] =>
      refine ⟨rfl, fun j hj => ?_⟩
      have : j = 0 := by simpa [Ty.size] using hj
      subst this
      exact .nslE _
  | .unit, z, h => by
    match z with
    | [] => exact ⟨rfl, fun j hj => by cases hj⟩

theorem madeCells_get (z : Array Value) (m size i j : Nat) (hz : z.size = size) (hj : j < size) (h : i * size + j < m) : (madeCells z m).getD (i * size + j) undef = z.getD j undef := by
  have h1 : (i * size + j) % size = j := by
    rw [Nat.add_comm, Nat.add_mul_mod_self_right, Nat.mod_eq_of_lt hj]
  subst hz
  simp [madeCells, Array.getD, h, h1, hj]

theorem made_cells {T : Ty} {z : Value} {zs : List Value} (hz : z.cells.toList = zs) (hok : zeroOk T zs = true) (l c : Nat) (hlc : l ≤ c) :
    Cells A w n G T (List.replicate l T.dflt) (fun i => (madeCells z.cells (c * T.size)).getD i undef) := by
  intro i j hi hj
  have hi' : i < l := by simpa using hi
  obtain ⟨h1, h2⟩ := zero_rep (A := A) (w := w) (n := n) (G := G) T zs hok
  have hsz : z.cells.size = T.size := by rw [← h1, ← hz]; simp
  have e1 : (List.replicate l T.dflt).getD i T.dflt = T.dflt := by simp [List.getD, hi']
  have e2 := madeCells_get z.cells (c * T.size) T.size i j hsz hj (mul_lt_cap (by omega) hj)
  simp only [e1, e2]
  have := h2 j hj
  rw [← hz] at this
  simpa [List.getD, Array.getD, hsz, hj] using this

theorem makeSliceK_sound (tt : TTok P TT) (inv : Inv F w G ob) {T : Ty} {t : Nat} {x y : AV} {a b : Value} {k : AV → List AO → Option ρ} (e : makeSliceK TT T t x y ob k = some r)
    (hx : Rep (avoid F G) w ob.length G x a) (hy : Rep (avoid F G) w ob.length G y b) :
    ∃ v z ob' w' G', k v ob' = some r ∧ Rep (avoid F G') w' ob'.length G' v z ∧ Inv F w' G' ob' ∧ Trans ob.length w G w' G' ∧ ob.length ≤ ob'.length ∧ (Instr.makeSlice t a b).run P w = .ok z w' := by
  unfold makeSliceK at e
  split at e
  · rename_i el c1 l c2 c hk
    cases hx; cases hy
    split at e
    · rename_i hT
      obtain ⟨hsz, hT0, hko, hz⟩ := hT
      split at e
      · rename_i hc
        obtain ⟨h0, h1, h2, h3⟩ := hc
        have hko' := isOther_false hko
        obtain ⟨i, z, hi, hs, hb, hzz, hzc, _⟩ := ((tt el).resolve_left hko').2
        have hrun := run_make (P := P) w t el i z (tt_sl tt hk) hi hzz c1 c2 l c h0 h1 (by
          rw [hb, Int.mul_comm]; omega) h3
        obtain ⟨G', hn1, hn2, hn3, hn4⟩ := new_arr inv (T := T) (xs := List.replicate l.toNat T.dflt) w (.inl rfl) (madeCells z.cells (c.toNat * T.size)) el c.toNat hT0 (by simp; omega) (size_madeCells _ _)
          (made_cells hzc hz l.toNat c.toNat (by omega)) none
        rw [hs, hsz] at hrun
        simp only [List.length_replicate] at hn4
        have hl : (ob ++ [AO.arr T (List.replicate l.toNat T.dflt)]).length = ob.length + 1 := by simp
        exact ⟨_, _, _, _, G', e, by rw [hl]; exact hn4, hn1, hn2, by rw [hl]; omega, hrun⟩
      · cases e
    · cases e
  · cases e

/-! #### A literal's elements -/

theorem ofCells_ok : ∀ (T : Ty) (l : List AV) (y : T.D) (rest : List AV), ofCells T l = some (y, rest) → ∃ l0, l = l0 ++ rest ∧ l0.all cellOk = true
  | .int k, l, y, rest, h => by
    match l with
    | [] => cases h
    | x :: l =>
      cases x <;> simp only [ofCells] at h <;> try cases h
      split at h
      · simp only [Option.some.injEq, Prod.mk.injEq] at h
        obtain ⟨_, rfl⟩ := h
        exact ⟨[_], rfl, rfl⟩
      · cases h
  | .bool, l, y, rest, h => by
    match l with
    | [] => cases h
    | x :: l =>
      cases x <;> simp only [ofCells] at h <;> try cases h
      exact ⟨[_], rfl, rfl⟩
  | .str, l, y, rest, h => by
    match l with
    | [] => cases h
    | x :: l =>
      cases x <;> simp only [ofCells] at h <;> try cases h
      exact ⟨[_], rfl, rfl⟩
  | .sl e, l, y, rest, h => by
    match l with
    | [] => cases h
    | x :: l =>
      cases x <;> simp only [ofCells] at h <;> try cases h
      · split at h
        · simp only [Option.some.injEq, Prod.mk.injEq] at h
          obtain ⟨_, rfl⟩ := h
          exact ⟨[_], rfl, rfl⟩
        · cases h
      · split at h
        · simp only [Option.some.injEq, Prod.mk.injEq] at h
          obtain ⟨_, rfl⟩ := h
          exact ⟨[_], rfl, rfl⟩
        · cases h
      · exact ⟨[_], rfl, rfl⟩
  | .nsl e, l, y, rest, h => by
    match l with
    | [] => cases h
    | x :: l =>
      cases x <;> simp only [ofCells] at h <;> try cases h
      · split at h
        · split at h
          · cases h
          · simp only [Option.some.injEq, Prod.mk.injEq] at h
            obtain ⟨_, rfl⟩ := h
            exact ⟨[_], rfl, rfl⟩
        · cases h
      · split at h
        · simp only [Option.some.injEq, Prod.mk.injEq] at h
          obtain ⟨_, rfl⟩ := h
          exact ⟨[_], rfl, rfl⟩
        · cases h
      · exact ⟨[_], rfl, rfl⟩
  | .pair a b, l, y, rest, h => by
    simp only [ofCells, Option.bind_eq_some_iff] at h
    obtain ⟨⟨y1, r1⟩, h1, ⟨y2, r2⟩, h2, h3⟩ := h
    simp only [Option.some.injEq, Prod.mk.injEq] at h3
    obtain ⟨_, rfl⟩ := h3
    obtain ⟨l1, rfl, e1⟩ := ofCells_ok a l y1 r1 h1
    obtain ⟨l2, e2, e3⟩ := ofCells_ok b r1 y2 r2 h2
    exact ⟨l1 ++ l2, by rw [e2, List.append_assoc], by simp [List.all_append, e1, e3]⟩
  | .st a, l, y, rest, h => ofCells_ok a l y rest h
  | .unit, l, y, rest, h => by
    simp only [ofCells, Option.some.injEq, Prod.mk.injEq] at h
    obtain ⟨_, rfl⟩ := h
    exact ⟨[], rfl, rfl⟩
  | .ptr e, l, y, rest, h => by
    match l with
    | [] => cases h
    | x :: l =>
      cases x
      case iptr e' v sub =>
        cases sub with
        | succ => simp [ofCells] at h
        | zero =>
          simp only [ofCells] at h
          split at h
          · simp only [Option.some.injEq, Prod.mk.injEq] at h
            obtain ⟨_, rfl⟩ := h
            exact ⟨[_], rfl, rfl⟩
          · cases h
      all_goals (simp [ofCells] at h)
  | .map K V, l, y, rest, h => by
    match l with
    | [] => cases h
    | x :: l =>
      cases x <;> simp only [ofCells] at h <;> try cases h
      · split at h
        · simp only [Option.some.injEq, Prod.mk.injEq] at h
          obtain ⟨_, rfl⟩ := h
          exact ⟨[_], rfl, rfl⟩
        · cases h
      · exact ⟨[_], rfl, rfl⟩

theorem ofCells_len : ∀ (T : Ty) (l : List AV) (y : T.D) (rest : List AV), ofCells T l = some (y, rest) → l.length = T.size + rest.length
  | .int k, l, y, rest, h => by
    match l with
    | [] => cases h
    | x :: l =>
      cases x <;> simp only [ofCells] at h <;> try cases h
      split at h
      · simp only [Option.some.injEq, Prod.mk.injEq] at h
        obtain ⟨_, rfl⟩ := h
        simp [Ty.size]; omega
      · cases h
  | .bool, l, y, rest, h => by
    match l with
    | [] => cases h
    | x :: l =>
      cases x <;> simp only [ofCells] at h <;> try cases h
      simp [Ty.size]; omega
  | .str, l, y, rest, h => by
    match l with
    | [] => cases h
    | x :: l =>
      cases x <;> simp only [ofCells] at h <;> try cases h
      simp [Ty.size]; omega
  | .sl e, l, y, rest, h => by
    match l with
    | [] => cases h
    | x :: l =>
      cases x <;> simp only [ofCells] at h <;> try cases h
      · split at h
        · simp only [Option.some.injEq, Prod.mk.injEq] at h
          obtain ⟨_, rfl⟩ := h
          simp [Ty.size]; omega
        · cases h
      · split at h
        · simp only [Option.some.injEq, Prod.mk.injEq] at h
          obtain ⟨_, rfl⟩ := h
          simp [Ty.size]; omega
        · cases h
      · simp [Ty.size]; omega
  | .nsl e, l, y, rest, h => by
    match l with
    | [] => cases h
    | x :: l =>
      cases x <;> simp only [ofCells] at h <;> try cases h
      · split at h
        · split at h
          · cases h
          · simp only [Option.some.injEq, Prod.mk.injEq] at h
            obtain ⟨_, rfl⟩ := h
            simp [Ty.size]; omega
        · cases h
      · split at h
        · simp only [Option.some.injEq, Prod.mk.injEq] at h
          obtain ⟨_, rfl⟩ := h
          simp [Ty.size]; omega
        · cases h
      · simp [Ty.size]; omega
  | .pair a b, l, y, rest, h => by
    simp only [ofCells, Option.bind_eq_some_iff] at h
    obtain ⟨⟨y1, r1⟩, h1, ⟨y2, r2⟩, h2, h3⟩ := h
    simp only [Option.some.injEq, Prod.mk.injEq] at h3
    obtain ⟨_, rfl⟩ := h3
    have e1 := ofCells_len a l y1 r1 h1
    have e2 := ofCells_len b r1 y2 r2 h2
    simp only [Ty.size] at e1 e2 ⊢
    omega
  | .st a, l, y, rest, h => ofCells_len a l y rest h
  | .unit, l, y, rest, h => by
    simp only [ofCells, Option.some.injEq, Prod.mk.injEq] at h
    obtain ⟨_, rfl⟩ := h
    simp [Ty.size]
  | .ptr e, l, y, rest, h => by
    match l with
    | [] => cases h
    | x :: l =>
      cases x
      case iptr e' v sub =>
        cases sub with
        | succ => simp [ofCells] at h
        | zero =>
          simp only [ofCells] at h
          split at h
          · simp only [Option.some.injEq, Prod.mk.injEq] at h
            obtain ⟨_, rfl⟩ := h
            simp [Ty.size]; omega
          · cases h
      all_goals (simp [ofCells] at h)
  | .map K V, l, y, rest, h => by
    match l with
    | [] => cases h
    | x :: l =>
      cases x <;> simp only [ofCells] at h <;> try cases h
      · split at h
        · simp only [Option.some.injEq, Prod.mk.injEq] at h
          obtain ⟨_, rfl⟩ := h
          simp [Ty.size]; omega
        · cases h
      · simp [Ty.size]; omega

theorem ofAV_rep {T : Ty} {x : AV} {d : T.D} {v : Value} (h : ofAV T x = some d) (hx : Rep A w n G x v) :
    v.cells.size = T.size ∧ (∀ u ∈ v.cells.toList, u.oneCell' = true) ∧ ∀ j, j < T.size → Rep A w n G ((cellsAV T d).getD j .dead) (v.cells.getD j undef) := by
  unfold ofAV at h
  split at h
  case isFalse => cases h
  simp only [Option.bind_eq_some_iff] at h
  obtain ⟨⟨y, rest⟩, h1, h2⟩ := h
  cases rest with
  | cons => cases h2
  | nil =>
    simp only [Option.some.injEq] at h2
    subst h2
    obtain ⟨l0, h3, h4⟩ := ofCells_ok T _ _ _ h1
    simp only [List.append_nil] at h3
    rw [← h3] at h4
    obtain ⟨h5, h6, h7⟩ := cells_rep hx h4
    have hlen : x.cells.length = T.size := by simpa using ofCells_len T _ _ _ h1
    obtain ⟨_, _, h8⟩ := ofCells_rep T x.cells y [] (fun j => v.cells.getD j undef) h1 (fun j hj => h6 j (by omega))
    exact ⟨by omega, h7, h8⟩
end

end Go.Proofs.YtlbammfnkphajaaGreatDoor.Abs
