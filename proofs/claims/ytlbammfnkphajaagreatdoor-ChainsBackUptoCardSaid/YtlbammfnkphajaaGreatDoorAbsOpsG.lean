/- Conversions, appends, lengths, least and greatest. -/
import Derived.Test.YtlbammfnkphajaaGreatDoorAbsOpsF
import Derived.ChangeMaps4
namespace Go.Proofs.YtlbammfnkphajaaGreatDoor.Abs
open Go

section
variable {F : Nat → Prop} {w : World} {G : Gs} {ob : List AO} {P : Program} {TT : Nat → TI} {ρ : Type} {r : ρ} {A : Nat → Prop} {n : Nat}

theorem cellsAV_ok : ∀ (T : Ty) (v : T.D), (cellsAV T v).all cellOk = true
  | .int _, _ => rfl
  | .bool, _ => rfl
  | .str, _ => rfl
  | .sl _, _ => rfl
  | .pair a b, v => by simp only [cellsAV, List.all_append, cellsAV_ok a v.1, cellsAV_ok b v.2, Bool.and_true]
  | .st a, v => cellsAV_ok a v
  | .unit, _ => rfl
  | .ptr _, _ => rfl
  | .map _ _, _ => rfl
  | .nsl _, _ => rfl

theorem cells_one {T : Ty} {xs : List T.D} {vs : Nat → Value} (h : Cells A w n G T xs vs) {m : Nat} (hm : m < xs.length * T.size) : (vs m).oneCell' = true := by
  have hT : 0 < T.size := by
    rcases Nat.eq_zero_or_pos T.size with e | e
    · rw [e] at hm; omega
    · exact e
  have hi : m / T.size < xs.length := by rw [Nat.div_lt_iff_lt_mul hT]; exact hm
  have hj : m % T.size < T.size := Nat.mod_lt _ hT
  have := h (m / T.size) (m % T.size) hi hj
  rw [Nat.mul_comm, Nat.div_add_mod] at this
  refine (cell_one this ?_).1
  have hl := cellsAV_length T (xs.getD (m / T.size) T.dflt)
  have hall := cellsAV_ok T (xs.getD (m / T.size) T.dflt)
  have hj2 : m % T.size < (cellsAV T (xs.getD (m / T.size) T.dflt)).length := by omega
  have key : ∀ (l : List AV) (i : Nat), i < l.length → l.all cellOk = true → cellOk (l.getD i .dead) = true := fun l i hi ha => by
    have := List.all_eq_true.1 ha _ (List.getElem_mem hi)
    simpa [List.getD, hi] using this
  exact key _ _ hj2 hall

/-- What a slice or a string gives to an append, a copy or a conversion. -/
structure Src (P : Program) (A : Nat → Prop) (w : World) (n : Nat) (G : Gs) (T : Ty) (xs : List T.D) (v : Value) (news : List Value) : Prop where
  len : news.length = xs.length * T.size
  cells : Cells A w n G T xs (fun i => news.getD i undef)
  lenOf : ∀ w' : World, (Builtin.lenOf v).run P w' = .ok xs.length w'
  firstN : ∀ w' : World, w'.heap = w.heap → ∀ m, m ≤ xs.length → (Builtin.firstCells T.size m v).run P w' = .ok (news.take (m * T.size)).toArray w'

theorem Src.first {P : Program} {A : Nat → Prop} {w : World} {n : Nat} {G : Gs} {T : Ty} {xs : List T.D} {v : Value} {news : List Value} (h : Src P A w n G T xs v news) (w' : World) (hw : w'.heap = w.heap) :
    (Builtin.firstCells T.size xs.length v).run P w' = .ok news.toArray w' := by
  rw [h.firstN w' hw xs.length (Nat.le_refl _), ← h.len, List.take_length]

theorem src_slice {T : Ty} {xs : List T.D} (b o cap : Nat) (c : Nat → Value) (hc : ∀ m, m < xs.length * T.size → w.cell? ⟨b, o + m, none⟩ = some (c m)) (hx : Cells A w n G T xs c) :
    Src P A w n G T xs (.slice (some ⟨b, o, none⟩) xs.length cap) ((List.range (xs.length * T.size)).map c) where
  len := by simp
  cells i j hi hj := by
    have hm := mul_lt_cap hi hj
    have e : ((List.range (xs.length * T.size)).map c).getD (i * T.size + j) undef = c (i * T.size + j) := by simp [List.getD, hm]
    simp only [e]; exact hx i j hi hj
  lenOf w' := by simp [Builtin.lenOf]
  firstN w' hw m hm := by
    have hle : m * T.size ≤ xs.length * T.size := Nat.mul_le_mul_right _ hm
    have := run_loadCells (P := P) w' ⟨b, o, none⟩ (m * T.size) c (fun j hj => by
      rw [Addr.add_lit, World.cell?, hw]; exact hc j (by omega))
    have e : ((List.range (xs.length * T.size)).map c).take (m * T.size) = (List.range (m * T.size)).map c := by
      rw [← List.map_take, List.take_range, Nat.min_eq_left hle]
    rw [e]
    simpa [Builtin.firstCells] using this

theorem src_empty {T : Ty} (a : Option Addr) (cap : Nat) : Src P A w n G T [] (.slice a 0 cap) [] where
  len := by simp
  cells i j hi := by cases hi
  lenOf w' := by simp [Builtin.lenOf]
  firstN w' hw m hm := by
    have h0 : m = 0 := by simpa using hm
    subst h0
    cases a with
    | none => simp [Builtin.firstCells]
    | some a =>
      have := run_loadCells (P := P) w' a 0 (fun _ => undef) (fun j hj => by cases hj)
      simpa [Builtin.firstCells] using this

theorem castD_list {T T' : Ty} (h : T' = T) (h2 : Ty.sl T' = Ty.sl T) (xs : List T'.D) : HEq (castD (A := .sl T') (B := .sl T) h2 xs) xs := by
  subst h; exact HEq.rfl

theorem listOf_sound (inv : Inv F w G ob) {T : Ty} {x : AV} {xs : List T.D} {v : Value} (h : listOf T x ob = some xs) (hx : Rep (avoid F G) w ob.length G x v) :
    ∃ news, Src P (avoid F G) w ob.length G T xs v news := by
  unfold listOf at h
  split at h
  · cases hx
    simp only [Option.some.injEq] at h
    subst h
    exact ⟨_, src_empty _ _⟩
  · rename_i T' ys
    split at h
    · rename_i hT
      subst hT
      simp only [Option.some.injEq] at h
      have : ys = xs := h
      subst this
      cases hx with
      | islE _ a cap => exact ⟨_, src_empty _ _⟩
      | isl _ _ b o cap cs hne hT0 hcap hA hc hr => exact ⟨_, src_slice b o cap cs hc hr⟩
    · cases h
  · rename_i j
    cases hx
    rename_i hj hv hg0
    split at h
    · rename_i T' ys ho
      split at h
      · rename_i hT
        subst hT
        simp only [Option.some.injEq] at h
        have : ys = xs := h
        subst this
        obtain ⟨g, hg, hobj⟩ := inv.obj hj (by rw [ho]; simp)
        rw [ho] at hobj
        obtain ⟨a, cap, rfl, h1, h2, h3, h4⟩ := hg0 g hg
        obtain ⟨g1, g2, g3, g4, g5, g6⟩ := hobj
        rw [g3]
        by_cases h0 : ys = []
        · subst h0; exact ⟨_, src_empty _ _⟩
        · have hpos := List.length_pos_iff.2 h0
          have hc0 : cap ≠ 0 := by omega
          have ha := h4 hc0
          cases hbk : g.blk with
          | none => have := g5 hbk; omega
          | some b =>
            obtain ⟨C, hrow, hrep⟩ := g6 b hbk
            simp only [Gh.addr, hbk, Option.map_some, Nat.zero_mul, Nat.add_zero] at ha
            subst ha
            refine ⟨_, src_slice b g.base cap (fun m => C (g.base + m)) (fun m hm => hrow.cells _ ?_) (fun i j hi hj => ?_)⟩
            · have : ys.length * T'.size ≤ g.cap * g.size := by rw [g1]; exact Nat.mul_le_mul_right _ g4
              omega
            · have := hrep i j hi hj
              simpa [Nat.add_assoc] using this
      · cases h
    · cases h
  · rename_i j off len
    cases hx
    rename_i hj hv hg0
    split at h
    · rename_i T' ys ho
      split at h
      · rename_i hT
        subst hT
        simp only [Option.some.injEq] at h
        have hxs : (ys.drop off).take len = xs := h
        subst hxs
        obtain ⟨g, hg, hobj⟩ := inv.obj hj (by rw [ho]; simp)
        rw [ho] at hobj
        obtain ⟨a, cap, rfl, h1, h2, h3, h4⟩ := hg0 g hg
        obtain ⟨g1, g2, g3, g4, g5, g6⟩ := hobj
        have hlen : ((ys.drop off).take len).length = len := by simp; omega
        by_cases h0 : len = 0
        · subst h0
          simp only [List.take_zero]
          exact ⟨_, src_empty _ _⟩
        · have hc0 : cap ≠ 0 := by omega
          have ha := h4 hc0
          cases hbk : g.blk with
          | none => have := g5 hbk; omega
          | some b =>
            obtain ⟨C, hrow, hrep⟩ := g6 b hbk
            simp only [Gh.addr, hbk, Option.map_some] at ha
            subst ha
            have key := src_slice (P := P) (A := avoid F G) (w := w) (n := ob.length) (G := G) (xs := (ys.drop off).take len) b (g.base + off * g.size) cap (fun m => C (g.base + off * g.size + m)) (fun m hm => hrow.cells _ (by
              rw [hlen] at hm
              have : (off + len) * T'.size ≤ g.cap * g.size := by rw [g1]; exact Nat.mul_le_mul_right _ (by omega)
              rw [Nat.add_mul] at this
              rw [g1] at this ⊢
              omega)) (fun i j hi hj => by
              rw [hlen] at hi
              have := hrep (off + i) j (by omega) hj
              have e1 : ((ys.drop off).take len).getD i T'.dflt = ys.getD (off + i) T'.dflt := by
                simp only [List.getD, List.getElem?_take, List.getElem?_drop]
                rw [if_pos hi]
              rw [e1]
              rw [Nat.add_mul, ← Nat.add_assoc] at this
              simpa [g1, Nat.add_assoc] using this)
            rw [hlen] at key
            exact ⟨_, key⟩
      · cases h
    · cases h
  · rename_i s
    split at h
    · cases hx
      simp only [Option.some.injEq] at h
      subst h
      refine ⟨s.map fun b => .int .u8 (b.toNat : Int), ⟨by simp [Ty.size], fun i j hi hj => ?_, fun w' => by simp [Builtin.lenOf, ByteArray.size], fun w' hw m hm => ?_⟩⟩
      · have hi' : i < s.length := by simpa using hi
        have hj0 : j = 0 := by simpa [Ty.size] using hj
        subst hj0
        simp only [Ty.size, Nat.mul_one, Nat.add_zero, cellsAV, List.getD_cons_zero]
        have e1 : (s.map fun b => (b.toNat : Int)).getD i (Ty.int .u8).dflt = (s[i].toNat : Int) := by simp [List.getD, hi']
        have e2 : (s.map fun b => Value.int .u8 (b.toNat : Int)).getD i undef = .int .u8 (s[i].toNat : Int) := by simp [List.getD, hi']
        rw [e1, e2]; exact .int _ _
      · simp only [Builtin.firstCells, Sem.run_pure]
        congr 1
        apply Array.ext'
        simp [ByteArray.extract_mk, Ty.size, List.map_take]
    · cases h
  · cases h

/-! ### Lengths -/

theorem lenK_sound (tt : TTok P TT) (inv : Inv F w G ob) {t : Nat} {x : AV} {a : Value} {k : AV → Option ρ} (e : lenK TT t x ob k = some r) (hx : Rep (avoid F G) w ob.length G x a) (ty : TypeId) :
    ∃ v z, k v = some r ∧ Rep (avoid F G) w ob.length G v z ∧ (Builtin.len_ #[t] ty #[a]).run P w = .ok z w := by
  unfold lenK at e
  split at e
  · rename_i hk
    cases hx
    rename_i s
    have hsz : (⟨s.toArray⟩ : ByteArray).size = s.length := by simp [ByteArray.size]
    exact ⟨_, _, e, .int _ _, by simp [Builtin.len_, run_underlying (tt_str tt hk), goInt, hsz]⟩
  · rename_i hk
    have hu := tt_sl tt hk
    cases hx <;> exact ⟨_, _, e, .int _ _, by simp [Builtin.len_, run_underlying hu, goInt]⟩
  · rename_i hk
    have hu := tt_sl tt hk
    cases hx; exact ⟨_, _, e, .int _ _, by simp [Builtin.len_, run_underlying hu, goInt]⟩
  · rename_i hk
    have hu := tt_sl tt hk
    cases hx; exact ⟨_, _, e, .int _ _, by simp [Builtin.len_, run_underlying hu, goInt]⟩
  · rename_i hk
    have hu := tt_map tt hk
    cases hx; exact ⟨_, _, e, .int _ _, by simp [Builtin.len_, run_underlying hu, goInt]⟩
  · rename_i hk
    have hu := tt_sl tt hk
    cases hx
    rename_i hj hv hg0
    split at e
    · rename_i T xs ho
      obtain ⟨g, hg, hobj⟩ := inv.obj hj (by rw [ho]; simp)
      rw [ho] at hobj
      obtain ⟨a', cap, rfl, h1⟩ := hg0 g hg
      exact ⟨_, _, e, .int _ _, by simp [Builtin.len_, run_underlying hu, goInt, hobj.2.2.1]⟩
    · cases e
  · rename_i j off len hk
    have hu := tt_sl tt hk
    cases hx
    rename_i hj hv hg0
    split at e
    · rename_i T xs ho
      obtain ⟨g, hg, hobj⟩ := inv.obj hj (by rw [ho]; simp)
      obtain ⟨a', cap, rfl, h1⟩ := hg0 g hg
      exact ⟨_, _, e, .int _ _, by simp [Builtin.len_, run_underlying hu, goInt]⟩
    · cases e
  · rename_i hk
    have hu := tt_map tt hk
    cases hx
    rename_i hj hv hg0
    split at e
    · rename_i K V es ho
      obtain ⟨g, hg, hobj⟩ := inv.obj hj (by rw [ho]; simp)
      rw [ho] at hobj
      obtain ⟨b, ms, clock, h1, h2, _, h3, _⟩ := hobj
      obtain ⟨b', hb', rfl⟩ := hg0 g hg
      rw [h1] at hb'; cases hb'
      exact ⟨_, _, e, .int _ _, by simp [Builtin.len_, run_underlying hu, goInt, MapKept.run_getObj_map h2, h3]⟩
    · cases e
  · cases e

def RepL (A : Nat → Prop) (w : World) (n : Nat) (G : Gs) : List AV → List Value → Prop
  | [], [] => True
  | x :: l, v :: m => Rep A w n G x v ∧ RepL A w n G l m
  | _, _ => False

theorem slots_list {sl : List AV} {a : Act} (h : Slots A w n G sl a.tmps) : ∀ (l : List Operand), RepL A w n G (l.map (ev sl)) (l.map a.eval)
  | [] => trivial
  | x :: l => ⟨h.ev x, slots_list h l⟩

theorem mxK_go_sound (mx : Bool) (c : IntKind) {k : AV → Option ρ} : ∀ (l : List AV) (vs : List Value) (m : Int), mxK.go mx c m l k = some r → RepL A w n G l vs →
    ∃ m', k (.int c m') = some r ∧ ∀ w' : World, (vs.foldlM (if mx then Builtin.max2 else Builtin.min2) (.int c m)).run P w' = .ok (.int c m') w'
  | [], [], m, h, _ => ⟨m, h, fun w' => by simp⟩
  | x :: l, v :: vs, m, h, hr => by
    obtain ⟨h1, h2⟩ := hr
    cases x <;> simp only [mxK.go] at h <;> try cases h
    rename_i c' q
    cases h1
    obtain ⟨m', e1, e2⟩ := mxK_go_sound mx c l vs _ h h2
    refine ⟨m', e1, fun w' => ?_⟩
    rw [List.foldlM_cons, Sem.run_bind]
    cases mx
    · simp only [Bool.false_eq_true, if_false] at e2 ⊢
      simp only [Builtin.min2, Sem.run_pure, Result.andThen_ok]
      exact e2 w'
    · simp only [if_true] at e2 ⊢
      simp only [Builtin.max2, Sem.run_pure, Result.andThen_ok]
      exact e2 w'

theorem mxK_sound (mx : Bool) {l : List AV} {vs : List Value} {k : AV → Option ρ} (e : mxK mx l k = some r) (hl : RepL A w n G l vs) (ts : Array TypeId) (ty : TypeId) :
    ∃ v z, k v = some r ∧ Rep A w n G v z ∧ ((if mx then Builtin.max_ ts ty vs.toArray else Builtin.min_ ts ty vs.toArray)).run P w = .ok z w := by
  match l, vs, hl with
  | [], [], _ => cases e
  | x :: l, v :: vs, hl =>
    cases x <;> simp only [mxK] at e <;> try cases e
    rename_i c m
    obtain ⟨h1, h2⟩ := hl
    cases h1
    obtain ⟨m', e1, e2⟩ := mxK_go_sound (P := P) mx c l vs m e h2
    refine ⟨_, _, e1, .int _ _, ?_⟩
    cases mx
    · simpa [Builtin.min_] using e2 w
    · simpa [Builtin.max_] using e2 w

/-! ### Conversions -/

theorem convertK_sound (tt : TTok P TT) (inv : Inv F w G ob) {h : OA} {src dst : Nat} {x : AV} {a : Value} {k : AV → List AO → Option ρ} (e : convertK TT h src dst x ob k = some r) (hx : Rep (avoid F G) w ob.length G x a)
    (hsrc : (TT src).kind ≠ .other) :
    ∃ v z ob' w' G', k v ob' = some r ∧ Rep (avoid F G') w' ob'.length G' v z ∧ Inv F w' G' ob' ∧ Trans ob.length w G w' G' ∧ ob.length ≤ ob'.length ∧ (convert src dst a).run P w = .ok z w' := by
  obtain ⟨d, hd, hf⟩ := tt_desc tt hsrc
  unfold convertK at e
  split at e
  · rename_i b c q hk
    have hu := tt_int tt hk
    cases hx
    exact ⟨_, _, _, _, G, e, .int _ _, inv, Trans.refl _ _ _, Nat.le_refl _, by simp [convert, run_underlying hd, run_underlying hu, Conv.intToInt]⟩
  · rename_i s hk
    have hu := tt_str tt hk
    cases hx
    exact ⟨_, _, _, _, G, e, .str _, inv, Trans.refl _ _ _, Nat.le_refl _, by simp [convert, run_underlying hd, run_underlying hu]⟩
  · rename_i el s hks hkd
    have hus := tt_str tt hks
    have hud := tt_sl tt hkd
    cases hx
    have hcells : Cells (avoid F G) w ob.length G (.int .u8) (s.map fun b => (b.toNat : Int)) (fun i => (Lib.bytesCells w el ⟨s.toArray⟩).getD i undef) := by
      intro i j hi hj
      have hi' : i < s.length := by simpa using hi
      have hj0 : j = 0 := by simpa [Ty.size] using hj
      subst hj0
      simp only [Ty.size, Nat.mul_one, Nat.add_zero, cellsAV, List.getD_cons_zero]
      have e1 : (s.map fun b => (b.toNat : Int)).getD i (Ty.int .u8).dflt = (s[i].toNat : Int) := by simp [List.getD, hi']
      have e2 : (Lib.bytesCells w el ⟨s.toArray⟩).getD i undef = .int .u8 (s[i].toNat : Int) := by
        have : i < s.length + (grownCap w (⟨s.toArray⟩ : ByteArray).size 0 el - (⟨s.toArray⟩ : ByteArray).size) := by omega
        simp [Lib.bytesCells, Array.getD, hi', this]
      rw [e1, e2]; exact .int _ _
    have hsz : (⟨s.toArray⟩ : ByteArray).size = s.length := by simp [ByteArray.size]
    have hcap : s.length ≤ grownCap w (⟨s.toArray⟩ : ByteArray).size 0 el := by
      rw [hsz]; simp only [grownCap, Question.cut]; omega
    have hC : (Lib.bytesCells w el ⟨s.toArray⟩).size = grownCap w (⟨s.toArray⟩ : ByteArray).size 0 el := by
      simp [Lib.bytesCells]; omega
    have hfr : ∀ b, b < w.heap.size → (Lib.bytesWorld w el ⟨s.toArray⟩).heap[b]? = w.heap[b]? := fun b hb => Lib.bytesWorld_at_old w el _ b hb
    have hw : (Lib.bytesWorld w el ⟨s.toArray⟩).os = w.os ∧ (Lib.bytesWorld w el ⟨s.toArray⟩).tape = w.tape ∧ (Lib.bytesWorld w el ⟨s.toArray⟩).output = w.output := by
      refine ⟨?_, ?_, ?_⟩ <;> simp [Lib.bytesWorld, World.freeze, World.alloc, World.drew, -World.alloc_eq, -World.drew_eq]
    have hrow : Row (Lib.bytesWorld w el ⟨s.toArray⟩) w.heap.size (Lib.bytesCells w el ⟨s.toArray⟩).size (fun i => (Lib.bytesCells w el ⟨s.toArray⟩).getD i undef) := by
      refine ⟨fun o ho => ?_, fun o ho => ?_⟩
      · simp [World.cell?, Lib.bytesWorld_at_new, Array.getD, ho]
      · have : ¬ ((Lib.bytesCells w el ⟨s.toArray⟩).size ≤ o) := by omega
        simp [World.frozen?, Lib.bytesWorld_at_new, this]
    split at e
    · rename_i hke
      have hue := tt_int tt hke
      have hrun := Lib.run_convert_string_bytes (P := P) w src dst el ⟨s.toArray⟩ hus hud hue
      rw [hsz] at hrun
      obtain ⟨hg1, hg2⟩ := inv.grow (w' := Lib.bytesWorld w el ⟨s.toArray⟩) hw.1 hw.2.1 hw.2.2 (by rw [Lib.bytesWorld_size]; omega) hfr
      refine ⟨_, _, _, _, G, e, ?_, hg1, hg2, Nat.le_refl _, hrun⟩
      rw [hsz] at hcap
      by_cases h0 : s = []
      · subst h0; exact .islE _ _ _
      · have hst := hg2.stays (F := F) (Nat.le_refl _)
        have := Rep.isl (A := avoid F G) (w := Lib.bytesWorld w el ⟨s.toArray⟩) (n := ob.length) (G := G) (.int .u8) (s.map fun b => (b.toNat : Int)) w.heap.size 0 (grownCap w s.length 0 el) (fun i => (Lib.bytesCells w el ⟨s.toArray⟩).getD i undef)
          (by simpa using h0) (by simp [Ty.size]) (by simpa using hcap) (fun hav => by
            rcases hav with hF | ⟨j, g, hg, hb⟩
            · exact absurd (inv.old _ hF) (Nat.lt_irrefl _)
            · exact absurd (inv.free j g _ hg hb).2 (Nat.lt_irrefl _)) (fun m hm => by
            rw [Nat.zero_add]
            refine hrow.cells m ?_
            rw [hC, hsz]
            have : m < s.length := by simpa [Ty.size] using hm
            omega) (fun i j hi hj => (hcells i j hi hj).stays hst)
        simpa using this
    · rename_i hke
      have hue := tt_int tt hke
      have hrun := Lib.run_convert_string_bytes (P := P) w src dst el ⟨s.toArray⟩ hus hud hue
      rw [hsz] at hrun hcap hC
      let g : Gh := ⟨some w.heap.size, 0, 1, s.length, grownCap w s.length 0 el⟩
      have hp := inv.push (w' := Lib.bytesWorld w el ⟨s.toArray⟩) none g (.arr (.int .u8) (s.map fun b => (b.toNat : Int))) hw.1 hw.2.1 hw.2.2 (by rw [Lib.bytesWorld_size]; omega) (fun b hb _ => hfr b hb)
        (fun b hb => by
          have : w.heap.size = b := by simpa [g] using hb
          subst this
          exact ⟨by rw [Lib.bytesWorld_size]; omega, .inl (Nat.le_refl _)⟩)
        (fun st => by
          refine ⟨rfl, by simp [Ty.size], by simp [g], by simpa [g] using hcap, (fun h => by cases h), fun b hb => ?_⟩
          have : w.heap.size = b := by simpa [g] using hb
          subst this
          refine ⟨fun i => (Lib.bytesCells w el ⟨s.toArray⟩).getD i undef, ?_, fun i j hi hj => ?_⟩
          · have : g.base + g.cap * g.size = (Lib.bytesCells w el ⟨s.toArray⟩).size := by simp [g, hC]
            rw [this]; exact hrow
          · have := (hcells i j hi hj).stays st
            simpa [g] using this)
      have hl : (ob ++ [AO.arr (.int .u8) (s.map fun b => (b.toNat : Int))]).length = ob.length + 1 := by simp
      refine ⟨_, _, _, _, _, e, ?_, by simpa [killL] using hp.1, hp.2.1, by omega, hrun⟩
      rw [hl]
      refine .slw _ _ (by omega) ⟨_, _, _, rfl⟩ fun g' hg' => ?_
      have e1 : g = g' := by simpa [Gs.push] using hg'
      subst e1
      exact ⟨_, _, rfl, by simp [g], hcap, by simp [g], fun _ => by simp [Gh.addr, g]⟩
    · cases e
  · rename_i el hks hkd hno
    have hus := tt_sl tt hks
    have hud := tt_str tt hkd
    split at e
    · rename_i hke
      have hue := tt_int tt hke
      simp only [Option.bind_eq_some_iff] at e
      obtain ⟨xs, hxs, e⟩ := e
      obtain ⟨news, hs⟩ := listOf_sound (P := P) inv hxs hx
      have hv : ∃ a' l c, a = .slice a' l c := by
        cases hx <;> first
          | exact ⟨_, _, _, rfl⟩
          | assumption
          | exact (hno _ rfl).elim
          | exact absurd hxs (by simp [listOf])
      obtain ⟨a', l, c, rfl⟩ := hv
      have hl : l = xs.length := by
        have := hs.lenOf w
        simpa [Builtin.lenOf] using this
      subst hl
      have hnews : news = xs.map (Value.int .u8) := by
        apply List.ext_getElem
        · rw [hs.len]; simp [Ty.size]
        · intro i h1 h2
          have hi : i < xs.length := by simpa using h2
          have := hs.cells i 0 hi (by simp [Ty.size])
          simp only [Ty.size, Nat.mul_one, Nat.add_zero, cellsAV, List.getD_cons_zero] at this
          have e1 : xs.getD i (Ty.int .u8).dflt = xs[i] := by simp [List.getD, hi]
          have e2 : news.getD i undef = news[i] := by simp [List.getD, h1]
          rw [e1, e2] at this
          have e3 := int_val this rfl
          rw [e3]; simp
      have hfold : ∀ (ns : List Int) (s : ByteArray), ns.foldl (fun r n => r.push (UInt8.ofNat n.toNat)) s = ⟨s.data ++ (ns.map fun n => UInt8.ofNat n.toNat).toArray⟩ := by
        intro ns
        induction ns with
        | nil => intro s; simp
        | cons n ns ih => intro s; rw [List.foldl_cons, ih]; simp [ByteArray.push]
      refine ⟨_, _, _, _, G, e, .str _, inv, Trans.refl _ _ _, Nat.le_refl _, ?_⟩
      rw [run_convert_bytes_string w src dst el a' xs.length c hus hue hud]
      cases a' with
      | none =>
        have h0 := hs.first w rfl
        simp only [Builtin.firstCells, Sem.run_pure, Result.ok.injEq, and_true] at h0
        have hlen := hs.len
        have : news = [] := by
          have := congrArg Array.toList h0
          simpa using this.symm
        rw [this] at hlen
        have hx0 : xs = [] := by
          have : xs.length = 0 := by simpa [Ty.size] using hlen.symm
          exact List.length_eq_zero_iff.1 this
        subst hx0
        rfl
      | some a' =>
        have h0 := hs.first w rfl
        simp only [Builtin.firstCells, Ty.size, Nat.mul_one] at h0
        rw [hnews] at h0
        rw [run_bytesToString w a' xs.length c xs h0, hfold]
        have : (ByteArray.empty.data ++ (xs.map fun n => UInt8.ofNat n.toNat).toArray) = (xs.map fun (n : Int) => UInt8.ofNat n.toNat).toArray := by
          have he0 : ByteArray.empty.data = #[] := rfl
          rw [he0]; simp
        rw [this]
    · cases e
  · cases e
end

end Go.Proofs.YtlbammfnkphajaaGreatDoor.Abs
