/- What the abstract machine's values and objects say of the model's world, and that it stays so while only the call's own memory is written. -/
import Derived.Test.YtlbammfnkphajaaGreatDoorAbsCore
import Derived.MapKept
namespace Go.Proofs.YtlbammfnkphajaaGreatDoor.Abs
open Go

/-! ### Where an object lies -/

structure Gh where
  blk : Option Nat
  base : Nat
  size : Nat
  len : Nat
  cap : Nat

abbrev Gs := Nat → Option Gh

def Gs.has (G : Gs) (b : Nat) : Prop := ∃ j g, G j = some g ∧ g.blk = some b

def avoid (F : Nat → Prop) (G : Gs) (b : Nat) : Prop := F b ∨ G.has b

def Gh.addr (g : Gh) (i : Nat) : Option Addr := g.blk.map fun b => ⟨b, g.base + i * g.size, none⟩

def Gh.isSl (g : Gh) (off len : Nat) (v : Value) : Prop :=
  ∃ a cap, v = .slice a len cap ∧ off + cap ≤ g.cap ∧ len ≤ cap ∧ off + len ≤ g.len ∧ (cap ≠ 0 → a = g.addr off)

def Gh.isPtr (g : Gh) (i sub : Nat) (v : Value) : Prop :=
  i < g.len ∧ ∃ b, g.blk = some b ∧ v = .pointer (some ⟨b, g.base + i * g.size + sub, none⟩)

/-! ### What a value says -/

inductive Rep (A : Nat → Prop) (w : World) (n : Nat) (G : Gs) : AV → Value → Prop
  | int (k : IntKind) (m : Int) : Rep A w n G (.int k m) (.int k m)
  | bool (b : Bool) : Rep A w n G (.bool b) (.bool b)
  | str (s : List UInt8) : Rep A w n G (.str s) (.string ⟨s.toArray⟩)
  | islE (T : Ty) (a : Option Addr) (cap : Nat) : Rep A w n G (.isl T []) (.slice a 0 cap)
  | isl (T : Ty) (xs : List T.D) (b o cap : Nat) (cs : Nat → Value) (hne : xs ≠ []) (hT : 0 < T.size) (hcap : xs.length ≤ cap) (hA : ¬ A b)
      (hc : ∀ m, m < xs.length * T.size → w.cell? ⟨b, o + m, none⟩ = some (cs m))
      (hr : ∀ i j, i < xs.length → j < T.size → Rep A w n G ((cellsAV T (xs.getD i T.dflt)).getD j .dead) (cs (i * T.size + j))) :
      Rep A w n G (.isl T xs) (.slice (some ⟨b, o, none⟩) xs.length cap)
  | nslE (T : Ty) : Rep A w n G (.nsl T []) (.slice none 0 0)
  | nsl (T : Ty) (xs : List T.D) (v : Value) (hne : xs ≠ []) (h : Rep A w n G (.isl T xs) v) : Rep A w n G (.nsl T xs) v
  | iptr (T : Ty) (v : T.D) (sub b o : Nat) (cs : Nat → Value) (hT : 0 < T.size) (hA : ¬ A b)
      (hc : ∀ m, m < T.size → w.cell? ⟨b, o + m, none⟩ = some (cs m))
      (hr : ∀ j, j < T.size → Rep A w n G ((cellsAV T v).getD j .dead) (cs j)) :
      Rep A w n G (.iptr T v sub) (.pointer (some ⟨b, o + sub, none⟩))
  | imapE (K V : Ty) : Rep A w n G (.imap K V []) (.map none)
  | imap (K V : Ty) (es : List (K.D × V.D)) (b : Nat) (ms : Array MapEntry) (clock : Nat) (hA : ¬ A b) (hb : w.heap[b]? = some (.map ms clock)) (hs : MapKept.Stamped ms clock) (hl : ms.size = es.length)
      (hk : ∀ i, i < es.length → Rep A w n G (toAV K (es.getD i (K.dflt, V.dflt)).1) (ms.getD i default).key)
      (hv : ∀ i, i < es.length → Rep A w n G (toAV V (es.getD i (K.dflt, V.dflt)).2) (ms.getD i default).val) :
      Rep A w n G (.imap K V es) (.map (some b))
  | nilsl : Rep A w n G .nilsl (.slice none 0 0)
  | nilptr : Rep A w n G .nilptr (.pointer none)
  | nilmap : Rep A w n G .nilmap (.map none)
  | nilfn : Rep A w n G .nilfn .nilFunc
  | nilifc : Rep A w n G .nilifc .nilIface
  | slw (j : Nat) (v : Value) (hj : j < n) (hv : ∃ a l c, v = .slice a l c) (h : ∀ g, G j = some g → g.isSl 0 g.len v) : Rep A w n G (.slw j) v
  | sl (j off len : Nat) (v : Value) (hj : j < n) (hv : ∃ a l c, v = .slice a l c) (h : ∀ g, G j = some g → g.isSl off len v) : Rep A w n G (.sl j off len) v
  | ptr (j i sub : Nat) (v : Value) (hj : j < n) (hv : ∃ b o, v = .pointer (some ⟨b, o, none⟩)) (h : ∀ g, G j = some g → g.isPtr i sub v) : Rep A w n G (.ptr j i sub) v
  | map (j : Nat) (v : Value) (hj : j < n) (hv : ∃ m, v = .map m) (h : ∀ g, G j = some g → ∃ b, g.blk = some b ∧ v = .map (some b)) : Rep A w n G (.map j) v
  | fn (f : Fn) (fi ca : List AV) (vf vc : Array Value) (h1 : fi.length = vf.size) (h2 : ca.length = vc.size)
      (hf : ∀ i, i < fi.length → Rep A w n G (fi.getD i .dead) (vf.getD i undef)) (hc : ∀ i, i < ca.length → Rep A w n G (ca.getD i .dead) (vc.getD i undef)) :
      Rep A w n G (.fn f fi ca) (.func f vf vc)
  | ifc (t : TypeId) (x : AV) (v : Value) (h : Rep A w n G x v) : Rep A w n G (.ifc t x) (.iface t v)
  | agg (cs : List AV) (vs : Array Value) (hl : cs.length = vs.size) (h : ∀ i, i < cs.length → Rep A w n G (cs.getD i .dead) (vs.getD i undef)) : Rep A w n G (.agg cs) (.agg vs)
  | tup (cs : List AV) (vs : Array Value) (hl : cs.length = vs.size) (h : ∀ i, i < cs.length → Rep A w n G (cs.getD i .dead) (vs.getD i undef)) : Rep A w n G (.tup cs) (.tuple vs)
  | fsl (vs : List AV) (b o cap : Nat) (cs : Nat → Value) (hne : vs ≠ []) (hcap : vs.length ≤ cap) (hA : ¬ A b)
      (hc : ∀ m, m < vs.length → w.cell? ⟨b, o + m, none⟩ = some (cs m)) (hr : ∀ i, i < vs.length → Rep A w n G (vs.getD i .dead) (cs i)) :
      Rep A w n G (.fsl vs) (.slice (some ⟨b, o, none⟩) vs.length cap)
  | fptr (v : AV) (b o : Nat) (c : Value) (hA : ¬ A b) (hc : w.cell? ⟨b, o, none⟩ = some c) (hr : Rep A w n G v c) : Rep A w n G (.fptr v) (.pointer (some ⟨b, o, none⟩))
  | undef : Rep A w n G .undef undef
  | dead (v : Value) : Rep A w n G .dead v

/-- Block b holds cells or a map. -/
def holds (w : World) (b : Nat) : Prop := (∃ o v, w.cell? ⟨b, o, none⟩ = some v) ∨ ∃ ms c, w.heap[b]? = some (.map ms c)

/-- Blocks outside A that hold cells or a map stay as they are; what was outside A and there is outside A'; the objects' places stay or are gone. -/
structure Stays (A : Nat → Prop) (w : World) (n : Nat) (G : Gs) (A' : Nat → Prop) (w' : World) (n' : Nat) (G' : Gs) : Prop where
  blocks : ∀ b, b < w.heap.size → holds w b → ¬ A b → w'.heap[b]? = w.heap[b]? ∧ ¬ A' b
  le : n ≤ n'
  keep : ∀ j, j < n → G' j = none ∨ G' j = G j

theorem cell_block {w w' : World} {a : Addr} (h : w'.heap[a.block]? = w.heap[a.block]?) : w'.cell? a = w.cell? a := by
  simp only [World.cell?, h]

theorem frozen_block {w w' : World} {a : Addr} (h : w'.heap[a.block]? = w.heap[a.block]?) : w'.frozen? a = w.frozen? a := by
  simp only [World.frozen?, h]

theorem cell_lt {w : World} {b o : Nat} {v : Value} (h : w.cell? ⟨b, o, none⟩ = some v) : b < w.heap.size := World.block_lt_of_cell? w (a := ⟨b, o, none⟩) h

/-- What may be nil, where it is not asked. -/
theorem Rep.fgt {A : Nat → Prop} {w : World} {n : Nat} {G : Gs} {T : Ty} {xs : List T.D} {v : Value} (h : Rep A w n G (.nsl T xs) v) : Rep A w n G (.isl T xs) v := by
  cases h with
  | nslE => exact .islE T none 0
  | nsl _ _ _ _ h => exact h

theorem Rep.fg {A : Nat → Prop} {w : World} {n : Nat} {G : Gs} {x : AV} {v : Value} (h : Rep A w n G x v) : Rep A w n G x.fg v := by
  cases x <;> first | exact h | exact h.fgt

theorem Rep.stays {A A' : Nat → Prop} {w w' : World} {n n' : Nat} {G G' : Gs} (s : Stays A w n G A' w' n' G') {x : AV} {v : Value} (h : Rep A w n G x v) : Rep A' w' n' G' x v := by
  induction h with
  | int k m => exact .int k m
  | bool b => exact .bool b
  | str s => exact .str s
  | islE T a cap => exact .islE T a cap
  | isl T xs b o cap cs hne hT hcap hA hc hr ih =>
    have h0 := hc 0 (Nat.mul_pos (List.length_pos_iff.2 hne) hT)
    have hb := s.blocks b (cell_lt h0) (.inl ⟨_, _, h0⟩) hA
    exact .isl T xs b o cap cs hne hT hcap hb.2 (fun m hm => (cell_block hb.1).trans (hc m hm)) ih
  | iptr T v sub b o cs hT hA hc hr ih =>
    have h0 := hc 0 hT
    have hb := s.blocks b (cell_lt h0) (.inl ⟨_, _, h0⟩) hA
    exact .iptr T v sub b o cs hT hb.2 (fun m hm => (cell_block hb.1).trans (hc m hm)) ih
  | imapE K V => exact .imapE K V
  | imap K V es b ms clock hA hb hst hl hk hv ihk ihv =>
    have hlt : b < w.heap.size := by
      rcases Nat.lt_or_ge b w.heap.size with h | h
      · exact h
      · rw [Array.getElem?_eq_none h] at hb; cases hb
    have hs := s.blocks b hlt (.inr ⟨_, _, hb⟩) hA
    exact .imap K V es b ms clock hs.2 (hs.1.trans hb) hst hl ihk ihv
  | nslE T => exact .nslE T
  | nsl T xs v hne h ih => exact .nsl T xs v hne ih
  | nilsl => exact .nilsl
  | nilptr => exact .nilptr
  | nilmap => exact .nilmap
  | nilfn => exact .nilfn
  | nilifc => exact .nilifc
  | slw j v hj hv h =>
    refine .slw j v (Nat.lt_of_lt_of_le hj s.le) hv fun g hg => ?_
    rcases s.keep j hj with e | e
    · rw [e] at hg; cases hg
    · exact h g (e ▸ hg)
  | sl j off len v hj hv h =>
    refine .sl j off len v (Nat.lt_of_lt_of_le hj s.le) hv fun g hg => ?_
    rcases s.keep j hj with e | e
    · rw [e] at hg; cases hg
    · exact h g (e ▸ hg)
  | ptr j i sub v hj hv h =>
    refine .ptr j i sub v (Nat.lt_of_lt_of_le hj s.le) hv fun g hg => ?_
    rcases s.keep j hj with e | e
    · rw [e] at hg; cases hg
    · exact h g (e ▸ hg)
  | map j v hj hv h =>
    refine .map j v (Nat.lt_of_lt_of_le hj s.le) hv fun g hg => ?_
    rcases s.keep j hj with e | e
    · rw [e] at hg; cases hg
    · exact h g (e ▸ hg)
  | fn f fi ca vf vc h1 h2 hf hc ih1 ih2 => exact .fn f fi ca vf vc h1 h2 ih1 ih2
  | ifc t x v h ih => exact .ifc t x v ih
  | agg cs vs hl h ih => exact .agg cs vs hl ih
  | tup cs vs hl h ih => exact .tup cs vs hl ih
  | fsl vs b o cap cs hne hcap hA hc hr ih =>
    have hb := s.blocks b (cell_lt (hc 0 (List.length_pos_iff.2 hne))) (.inl ⟨_, _, hc 0 (List.length_pos_iff.2 hne)⟩) hA
    exact .fsl vs b o cap cs hne hcap hb.2 (fun m hm => (cell_block hb.1).trans (hc m hm)) ih
  | fptr v b o c hA hc hr ih =>
    have hb := s.blocks b (cell_lt hc) (.inl ⟨_, _, hc⟩) hA
    exact .fptr v b o c hb.2 ((cell_block hb.1).trans hc) ih
  | undef => exact .undef
  | dead v => exact .dead v

/-! ### What an object says -/

/-- Block b is a row of cells, wide enough, none of them frozen. -/
structure Row (w : World) (b k : Nat) (C : Nat → Value) : Prop where
  cells : ∀ o, o < k → w.cell? ⟨b, o, none⟩ = some (C o)
  free : ∀ o, o < k → w.frozen? ⟨b, o, none⟩ = false

def ObjRep (A : Nat → Prop) (w : World) (n : Nat) (G : Gs) (o : AO) (g : Gh) : Prop :=
  match o with
  | .dead => False
  | .arr T xs => g.size = T.size ∧ 0 < T.size ∧ g.len = xs.length ∧ xs.length ≤ g.cap ∧ (g.blk = none → g.cap = 0) ∧
      ∀ b, g.blk = some b → ∃ C, Row w b (g.base + g.cap * g.size) C ∧
        ∀ i j, i < xs.length → j < T.size → Rep A w n G ((cellsAV T (xs.getD i T.dflt)).getD j .dead) (C (g.base + i * T.size + j))
  | .box cs => g.len = 1 ∧ (g.size = cs.length ∧ g.base = 0) ∧ ∃ b, g.blk = some b ∧ ∃ C, Row w b (g.base + cs.length) C ∧
      ∀ j, j < cs.length → Rep A w n G (cs.getD j .dead) (C (g.base + j))
  | .map K V es => ∃ b ms clock, g.blk = some b ∧ w.heap[b]? = some (.map ms clock) ∧ MapKept.Stamped ms clock ∧ ms.size = es.length ∧
      (∀ i, i < es.length → Rep A w n G (toAV K (es.getD i (K.dflt, V.dflt)).1) (ms.getD i default).key) ∧
      (∀ i, i < es.length → Rep A w n G (toAV V (es.getD i (K.dflt, V.dflt)).2) (ms.getD i default).val)

/-- The state's objects and the world. -/
structure Inv (F : Nat → Prop) (w : World) (G : Gs) (ob : List AO) : Prop where
  dom : ∀ j g, G j = some g → j < ob.length
  live : ∀ j, j < ob.length → ∀ g, G j = some g → ObjRep (avoid F G) w ob.length G (ob.getD j .dead) g
  there : ∀ j, j < ob.length → G j = none → ob.getD j .dead = .dead
  inj : ∀ i j g h b, G i = some g → G j = some h → g.blk = some b → h.blk = some b → i = j
  free : ∀ j g b, G j = some g → g.blk = some b → ¬ F b ∧ b < w.heap.size
  old : ∀ b, F b → b < w.heap.size

def Slots (A : Nat → Prop) (w : World) (n : Nat) (G : Gs) (sl : List AV) (tmps : Array Value) : Prop :=
  sl.length = tmps.size ∧ ∀ i, i < sl.length → Rep A w n G (sl.getD i .dead) (tmps.getD i undef)

/-- One step: what is not the state's own stays; the state's own blocks are those that were, and new ones. -/
structure Trans (n : Nat) (w : World) (G : Gs) (w' : World) (G' : Gs) : Prop where
  os : w'.os = w.os
  tape : w'.tape = w.tape
  output : w'.output = w.output
  size : w.heap.size ≤ w'.heap.size
  frame : ∀ b, b < w.heap.size → ¬ G.has b → w'.heap[b]? = w.heap[b]?
  own : ∀ b, G'.has b → G.has b ∨ w.heap.size ≤ b
  keep : ∀ j, j < n → G' j = none ∨ G' j = G j

theorem Trans.refl (n : Nat) (w : World) (G : Gs) : Trans n w G w G :=
  ⟨rfl, rfl, rfl, Nat.le_refl _, fun _ _ _ => rfl, fun _ h => .inl h, fun _ _ => .inr rfl⟩

theorem Trans.stays {F : Nat → Prop} {n n' : Nat} {w w' : World} {G G' : Gs} (t : Trans n w G w' G') (hn : n ≤ n') : Stays (avoid F G) w n G (avoid F G') w' n' G' where
  blocks b hb _ hA := ⟨t.frame b hb fun h => hA (.inr h), fun h => by
    rcases h with h | h
    · exact hA (.inl h)
    · rcases t.own b h with h | h
      · exact hA (.inr h)
      · omega⟩
  le := hn
  keep := t.keep

theorem Trans.trans {n n' : Nat} {w w' w'' : World} {G G' G'' : Gs} (t : Trans n w G w' G') (u : Trans n' w' G' w'' G'') (hn : n ≤ n') : Trans n w G w'' G'' where
  os := u.os.trans t.os
  tape := u.tape.trans t.tape
  output := u.output.trans t.output
  size := Nat.le_trans t.size u.size
  frame b hb h := (u.frame b (Nat.lt_of_lt_of_le hb t.size) fun h' => by
    rcases t.own b h' with h' | h'
    · exact h h'
    · omega).trans (t.frame b hb h)
  own b h := by
    rcases u.own b h with h | h
    · exact t.own b h
    · exact .inr (Nat.le_trans t.size h)
  keep j hj := by
    rcases u.keep j (Nat.lt_of_lt_of_le hj hn) with e | e
    · exact .inl e
    · rw [e]; exact t.keep j hj

theorem Slots.stays {A A' : Nat → Prop} {w w' : World} {n n' : Nat} {G G' : Gs} (s : Stays A w n G A' w' n' G') {sl : List AV} {tmps : Array Value} (h : Slots A w n G sl tmps) : Slots A' w' n' G' sl tmps :=
  ⟨h.1, fun i hi => (h.2 i hi).stays s⟩

theorem Slots.put {A : Nat → Prop} {w : World} {n : Nat} {G : Gs} {sl : List AV} {tmps : Array Value} (h : Slots A w n G sl tmps) {x : AV} {v : Value} (hx : Rep A w n G x v) (d : Nat) :
    Slots A w n G (sl.set d x) (tmps.setIfInBounds d v) := by
  refine ⟨by simp [h.1], fun i hi => ?_⟩
  have hi' : i < sl.length := by simpa using hi
  have ht : i < tmps.size := h.1 ▸ hi'
  by_cases e : d = i
  · subst e
    have e1 : (sl.set d x).getD d .dead = x := by simp [List.getD, hi']
    have e2 : (tmps.setIfInBounds d v).getD d undef = v := by simp [Array.getD, ht]
    rw [e1, e2]; exact hx
  · have e1 : (sl.set d x).getD i .dead = sl.getD i .dead := by simp [List.getD, e]
    have e2 : (tmps.setIfInBounds d v).getD i undef = tmps.getD i undef := by simp [Array.getD, ht, e]
    rw [e1, e2]; exact h.2 i hi'

theorem Slots.eval {A : Nat → Prop} {w : World} {n : Nat} {G : Gs} {sl : List AV} {a : Act} (h : Slots A w n G sl a.tmps) (t : Nat) : Rep A w n G (sl.getD t .dead) (a.tmps.getD t undef) := by
  by_cases ht : t < sl.length
  · exact h.2 t ht
  · have e : sl.getD t .dead = .dead := by simp [List.getD, List.getElem?_eq_none (Nat.le_of_not_lt ht)]
    rw [e]; exact .dead _

theorem rep_const1 {A : Nat → Prop} {w : World} {n : Nat} {G : Gs} (v : Value) : Rep A w n G (constAV1 v) v := by
  cases v with
  | slice a l c =>
    cases a with
    | none =>
      unfold constAV1
      split <;> first | exact .dead _ | (rename_i h; cases h; exact .nilsl) | (rename_i h; cases h)
    | some a => exact .dead _
  | pointer a => cases a with
    | none => exact .nilptr
    | some a => exact .dead _
  | map a => cases a with
    | none => exact .nilmap
    | some a => exact .dead _
  | string s => exact .str s.data.toList
  | int k m => exact .int k m
  | bool b => exact .bool b
  | nilFunc => exact .nilfn
  | nilIface => exact .nilifc
  | _ => exact .dead _

theorem rep_const {A : Nat → Prop} {w : World} {n : Nat} {G : Gs} (v : Value) : Rep A w n G (constAV v) v := by
  cases v with
  | agg cs =>
    refine .agg _ _ (by simp) fun i hi => ?_
    have hi' : i < cs.size := by simpa using hi
    have e : (cs.toList.map constAV1).getD i .dead = constAV1 (cs.getD i Go.undef) := by simp [List.getD, Array.getD, hi']
    rw [e]; exact rep_const1 _
  | slice a l c =>
    cases a with
    | none =>
      unfold constAV
      split <;> first | exact .dead _ | (rename_i h; cases h; exact .nilsl) | (rename_i h; cases h)
    | some a => exact .dead _
  | pointer a => cases a with
    | none => exact .nilptr
    | some a => exact .dead _
  | map a => cases a with
    | none => exact .nilmap
    | some a => exact .dead _
  | string s => exact .str s.data.toList
  | int k m => exact .int k m
  | bool b => exact .bool b
  | nilFunc => exact .nilfn
  | nilIface => exact .nilifc
  | _ => exact .dead _

theorem Slots.ev {A : Nat → Prop} {w : World} {n : Nat} {G : Gs} {sl : List AV} {a : Act} (h : Slots A w n G sl a.tmps) (x : Operand) : Rep A w n G (ev sl x) (a.eval x) := by
  cases x with
  | tmp t => exact h.eval t
  | const v => exact rep_const v
  | global g => exact .dead _
  | func f => exact .fn _ _ _ _ _ rfl rfl (fun i hi => by cases hi) (fun i hi => by cases hi)

end Go.Proofs.YtlbammfnkphajaaGreatDoor.Abs
