/- Literals, boxes, conversions, appends, lengths. -/
import Derived.Test.YtlbammfnkphajaaGreatDoorAbsOpsE
namespace Go.Proofs.YtlbammfnkphajaaGreatDoor.Abs
open Go

section
variable {F : Nat → Prop} {w : World} {G : Gs} {ob : List AO} {P : Program} {TT : Nat → TI} {ρ : Type} {r : ρ} {A : Nat → Prop} {n : Nat}

/-! ### Parts into an array of cells -/

theorem foldl_put (vs : List (Value × Nat)) : ∀ (off : Nat) (cs : Array Value), (vs.foldl (fun cs (x : Value × Nat) => cs.setIfInBounds (off + x.2) x.1) cs).size = cs.size := by
  induction vs with
  | nil => intro off cs; rfl
  | cons v vs ih => intro off cs; rw [List.foldl_cons, ih]; simp

theorem foldl_put_get : ∀ (vs : List Value) (k off : Nat) (cs : Array Value) (m : Nat), off + k + vs.length ≤ cs.size →
    ((vs.zipIdx k).foldl (fun cs (x : Value × Nat) => cs.setIfInBounds (off + x.2) x.1) cs).getD m undef = if off + k ≤ m ∧ m < off + k + vs.length then vs.getD (m - (off + k)) undef else cs.getD m undef
  | [], k, off, cs, m, _ => by rw [List.zipIdx_nil, List.foldl_nil, if_neg (by simp)]
  | v :: vs, k, off, cs, m, h => by
    simp only [List.length_cons] at h
    rw [List.zipIdx_cons, List.foldl_cons, foldl_put_get vs (k + 1) off _ m (by simp; omega)]
    by_cases h1 : m = off + k
    · subst h1
      rw [if_neg (by omega), if_pos (by simp)]
      have : off + k < cs.size := by omega
      simp [Array.getD, this]
    · by_cases h2 : off + (k + 1) ≤ m ∧ m < off + (k + 1) + vs.length
      · rw [if_pos h2, if_pos (by simp only [List.length_cons]; omega)]
        rw [show m - (off + k) = (m - (off + (k + 1))) + 1 by omega, List.getD_cons_succ]
      · rw [if_neg h2, if_neg (by simp only [List.length_cons]; omega)]
        by_cases hm : m < cs.size
        · have hne : off + k ≠ m := fun e => h1 e.symm
          simp [Array.getD, hm, hne]
        · simp [Array.getD, hm]

theorem array_zipIdx_foldl (a : Array Value) (off : Nat) (cs : Array Value) :
    a.zipIdx.foldl (fun cs (x : Value × Nat) => cs.setIfInBounds (off + x.2) x.1) cs = (a.toList.zipIdx 0).foldl (fun cs (x : Value × Nat) => cs.setIfInBounds (off + x.2) x.1) cs := by
  rw [← Array.foldl_toList, Array.toList_zipIdx]

theorem fill_step (place : Nat → Option (Nat × Nat)) (cs : Array Value) (i : Nat) (v : Value) (rest : List (Nat × Value)) (off size : Nat) (hp : place i = some (off, size)) (hv : v.cells.size = size) (hb : off + size ≤ cs.size) :
    ∃ cs', Instr.fill place cs ((i, v) :: rest) = Instr.fill place cs' rest ∧ cs'.size = cs.size ∧
      ∀ m, cs'.getD m undef = if off ≤ m ∧ m < off + size then v.cells.getD (m - off) undef else cs.getD m undef := by
  refine ⟨v.cells.zipIdx.foldl (fun cs (x : Value × Nat) => cs.setIfInBounds (off + x.2) x.1) cs, ?_, ?_, fun m => ?_⟩
  · have h1 : ¬ (cs.size < off + size) := by omega
    simp only [Instr.fill, hp, hv]
    rw [if_neg (by simp; omega)]
  · rw [array_zipIdx_foldl]; exact foldl_put _ _ _
  · rw [array_zipIdx_foldl, foldl_put_get _ _ _ _ _ (by simp [hv]; omega)]
    simp only [Nat.add_zero, Array.length_toList, hv]
    by_cases h : off ≤ m ∧ m < off + size
    · rw [if_pos h, if_pos h]
      have : m - off < v.cells.size := by omega
      simp [List.getD, Array.getD, this]
    · rw [if_neg h, if_neg h]

/-- The parts of a literal, one by one. -/
inductive Parts (A : Nat → Prop) (w : World) (n : Nat) (G : Gs) : List (Nat × AV) → List (Nat × Value) → Prop
  | nil : Parts A w n G [] []
  | cons (i : Nat) (x : AV) (v : Value) (l : List (Nat × AV)) (m : List (Nat × Value)) (h : Rep A w n G x v) (t : Parts A w n G l m) : Parts A w n G ((i, x) :: l) ((i, v) :: m)

theorem slots_parts {sl : List AV} {a : Act} (h : Slots A w n G sl a.tmps) : ∀ (l : List (Nat × Operand)), Parts A w n G (l.map fun p => (p.1, ev sl p.2)) (l.map fun p => (p.1, a.eval p.2))
  | [] => .nil
  | p :: l => .cons _ _ _ _ _ (h.ev p.2) (slots_parts h l)

theorem litList_sound {T : Ty} (hT : 0 < T.size) : ∀ (l : List (Nat × AV)) (m : List (Nat × Value)) (xs ys : List T.D) (cs : Array Value), Parts A w n G l m → litList T l xs = some ys → cs.size = xs.length * T.size →
    Cells A w n G T xs (fun i => cs.getD i undef) →
    ∃ cs', Instr.fill (fun i => some (i * T.size, T.size)) cs m = some cs' ∧ cs'.size = xs.length * T.size ∧ ys.length = xs.length ∧ Cells A w n G T ys (fun i => cs'.getD i undef)
  | _, _, xs, ys, cs, .nil, h, hs, hc => by
    simp only [litList, Option.some.injEq] at h
    subst h
    exact ⟨cs, rfl, hs, rfl, hc⟩
  | _, _, xs, ys, cs, .cons i x v l m hx ht, h, hs, hc => by
    simp only [litList] at h
    split at h
    · rename_i hi
      simp only [Option.bind_eq_some_iff] at h
      obtain ⟨d, hd, h⟩ := h
      obtain ⟨h1, h2, h3⟩ := ofAV_rep hd hx
      have hle : i * T.size + T.size ≤ xs.length * T.size := by
        have : (i + 1) * T.size ≤ xs.length * T.size := Nat.mul_le_mul_right _ hi
        rwa [Nat.succ_mul] at this
      obtain ⟨cs', e1, e2, e3⟩ := fill_step (fun i => some (i * T.size, T.size)) cs i v m (i * T.size) T.size rfl h1 (by omega)
      have hc' : Cells A w n G T (xs.set i d) (fun i => cs'.getD i undef) := by
        intro i' j hi' hj
        have hi2 : i' < xs.length := by simpa using hi'
        simp only [e3]
        by_cases hii : i' = i
        · subst hii
          rw [if_pos ⟨by omega, by omega⟩, show i' * T.size + j - i' * T.size = j by omega]
          have e4 : (xs.set i' d).getD i' T.dflt = d := by simp [List.getD, hi2]
          rw [e4]; exact h3 j hj
        · have hout : ¬ (i * T.size ≤ i' * T.size + j ∧ i' * T.size + j < i * T.size + T.size) := by
            rcases Nat.lt_or_ge i' i with hlt | hge
            · have : (i' + 1) * T.size ≤ i * T.size := Nat.mul_le_mul_right _ hlt
              rw [Nat.succ_mul] at this; omega
            · have : (i + 1) * T.size ≤ i' * T.size := Nat.mul_le_mul_right _ (by omega)
              rw [Nat.succ_mul] at this; omega
          rw [if_neg hout]
          have hne : i ≠ i' := fun e => hii e.symm
          have e4 : (xs.set i d).getD i' T.dflt = xs.getD i' T.dflt := by simp [List.getD, hne]
          rw [e4]; exact hc i' j hi2 hj
      obtain ⟨cs'', f1, f2, f3, f4⟩ := litList_sound hT l m (xs.set i d) ys cs' ht h (by simp [e2, hs]) hc'
      exact ⟨cs'', by rw [e1]; exact f1, by simpa using f2, by simpa using f3, f4⟩
    · cases h

/-- The cells of a row that is laid value by value. -/
theorem fslFill : ∀ (l : List (Nat × AV)) (m : List (Nat × Value)) (xs : List AV) (cs : Array Value), Parts A w n G l m → l.map (·.1) = List.range' xs.length l.length → l.all (fun p => cellOk p.2) = true → xs.length + l.length ≤ cs.size →
      (∀ i, i < xs.length → Rep A w n G (xs.getD i .dead) (cs.getD i undef)) →
      ∃ cs', Instr.fill (fun i => some (i * 1, 1)) cs m = some cs' ∧ cs'.size = cs.size ∧ ∀ i, i < xs.length + l.length → Rep A w n G ((xs ++ l.map (·.2)).getD i .dead) (cs'.getD i undef)
  | _, _, xs, cs, .nil, _, _, _, hr => ⟨cs, rfl, rfl, fun i hi => by simpa using hr i (by simpa using hi)⟩
  | _, _, xs, cs, .cons i x v l m hx ht, hk, ha, hb, hr => by
    simp only [List.map_cons, List.length_cons, List.range'_succ, List.cons.injEq] at hk
    obtain ⟨rfl, hk⟩ := hk
    simp only [List.all_cons, Bool.and_eq_true] at ha
    obtain ⟨hc, ha⟩ := ha
    have hcells : x.cells = [x] := by cases x <;> first | rfl | cases hc
    obtain ⟨h1, h2, h3⟩ := cells_rep hx (by rw [hcells]; simpa using hc)
    rw [hcells] at h1 h2
    simp only [List.length_cons] at hb
    obtain ⟨cs', e1, e2, e3⟩ := fill_step (fun i => some (i * 1, 1)) cs xs.length v m xs.length 1 (by simp) h1.symm (by omega)
    have hxs : (xs ++ [x]).length = xs.length + 1 := by simp
    obtain ⟨cs'', f1, f2, f3⟩ := fslFill l m (xs ++ [x]) cs' ht (by rw [hxs]; exact hk) ha (by rw [hxs, e2]; omega) (fun j hj => by
      rw [hxs] at hj
      rw [e3]
      by_cases hj2 : j = xs.length
      · subst hj2
        rw [if_pos (by omega), Nat.sub_self]
        have e4 : (xs ++ [x]).getD xs.length .dead = x := by simp [List.getD]
        rw [e4]; exact h2 0 (by simp)
      · rw [if_neg (by omega)]
        have hj3 : j < xs.length := by omega
        have e4 : (xs ++ [x]).getD j .dead = xs.getD j .dead := by simp [List.getD, List.getElem?_append, hj3]
        rw [e4]; exact hr j hj3)
    refine ⟨cs'', by rw [e1]; exact f1, by rw [f2, e2], fun j hj => ?_⟩
    have := f3 j (by rw [hxs]; simp only [List.length_cons] at hj; omega)
    simpa using this

theorem buildSliceK_sound (tt : TTok P TT) (inv : Inv F w G ob) {h : OA} {t len : Nat} {parts : List (Nat × AV)} {vs : Array (Nat × Value)} {k : AV → List AO → Option ρ} (e : buildSliceK TT h t len parts ob k = some r)
    (hp : Parts (avoid F G) w ob.length G parts vs.toList) :
    ∃ v z ob' w' G', k v ob' = some r ∧ Rep (avoid F G') w' ob'.length G' v z ∧ Inv F w' G' ob' ∧ Trans ob.length w G w' G' ∧ ob.length ≤ ob'.length ∧ (Instr.buildSlice t len vs).run P w = .ok z w' := by
  unfold buildSliceK at e
  split at e
  · rename_i el hk
    have hu := tt_sl tt hk
    have core : ∀ (T : Ty) (xs : List T.D), (TT el).size = T.size → 0 < T.size → (TT el).kind.isOther = false → zeroOk T (TT el).zero = true → len * T.size ≤ 16777216 →
        litList T parts (List.replicate len T.dflt) = some xs → xs.length = len ∧ ∃ C : Array Value, C.size = len * T.size ∧ Cells (avoid F G) w ob.length G T xs (fun i => C.getD i undef) ∧
          (Instr.buildSlice t len vs).run P w = .ok (.slice (some ⟨w.heap.size, 0, none⟩) len len) (w.alloc (.cells C el)) := by
      intro T xs hsz hT hko hz hlen hl
      have hko' := isOther_false hko
      obtain ⟨i, z, hi, hs, hb, hzz, hzc, _⟩ := ((tt el).resolve_left hko').2
      have hmc := made_cells (A := avoid F G) (w := w) (n := ob.length) (G := G) hzc hz len len (Nat.le_refl _)
      obtain ⟨C, h1, h2, h3, h4⟩ := litList_sound hT _ _ _ xs (madeCells z.cells (len * T.size)) hp hl (by simp [size_madeCells]) hmc
      simp only [List.length_replicate] at h2 h3
      refine ⟨h3, C, h2, h4, ?_⟩
      have hsz' : i.size = T.size := hs.trans hsz
      have hn : ¬ (len * T.size > 2 ^ 24) := by simp; omega
      have hfill : Instr.fill (fun i => some (i * T.size, T.size)) ((Array.range (len * T.size)).map (z.cells[· % z.cells.size]!)) vs.toList = some C := h1
      by_cases h0 : len * T.size = 0
      · have hfill' : Instr.fill (fun i => some (i * T.size, T.size)) ((Array.range (len * T.size)).map ((#[] : Array Value)[· % (#[] : Array Value).size]!)) vs.toList = some C := by
          rw [h0] at hfill ⊢
          simpa [Array.range_zero'] using hfill
        simp only [Instr.buildSlice, Sem.run_bind, run_underlying hu, Result.andThen_ok, sizeOf, typeInfo, run_program, hi, Sem.run_pure, hsz', h0, if_true]
        rw [h0] at hfill'
        rw [if_neg (by decide)]
        simp only [Sem.run_bind, Sem.run_pure, Result.andThen_ok, hfill']
        rfl
      · simp only [Instr.buildSlice, Sem.run_bind, run_underlying hu, Result.andThen_ok, sizeOf, typeInfo, run_program, hi, Sem.run_pure, hsz', if_neg hn, if_neg h0, zeroValue, hzz]
        rw [hfill]
        rfl
    split at e
    · rename_i T
      split at e
      · rename_i hc
        obtain ⟨hsz, hT, hko, hz, hlen⟩ := hc
        simp only [Option.bind_eq_some_iff] at e
        obtain ⟨xs, hl, e⟩ := e
        obtain ⟨hxl, C, hC, hcells, hrun⟩ := core T xs hsz hT hko hz hlen hl
        obtain ⟨hg1, hg2⟩ := inv.grow (w' := w.alloc (.cells C el)) rfl rfl rfl (by simp) (fun b hb => heap_alloc_old w _ b hb)
        refine ⟨_, _, _, _, G, e, ?_, hg1, hg2, Nat.le_refl _, hrun⟩
        by_cases hx0 : xs = []
        · subst hx0
          have : len = 0 := by simpa using hxl.symm
          subst this
          exact .islE T _ _
        · have hst := hg2.stays (F := F) (Nat.le_refl _)
          have hrow := alloc_row w C el
          rw [← hxl]
          refine .isl T xs w.heap.size 0 xs.length (fun i => C.getD i undef) hx0 hT (Nat.le_refl _) (fun hav => ?_) (fun m hm => ?_) (fun i j hi hj => (hcells i j hi hj).stays hst)
          · rcases hav with hF | ⟨j, g, hg, hb⟩
            · exact absurd (inv.old _ hF) (Nat.lt_irrefl _)
            · exact absurd (inv.free j g _ hg hb).2 (Nat.lt_irrefl _)
          · rw [Nat.zero_add]; exact hrow.cells m (by rw [hC, ← hxl]; exact hm)
      · cases e
    · rename_i T
      split at e
      · rename_i hc
        obtain ⟨hsz, hT, hko, hz, hlen⟩ := hc
        simp only [Option.bind_eq_some_iff] at e
        obtain ⟨xs, hl, e⟩ := e
        obtain ⟨hxl, C, hC, hcells, hrun⟩ := core T xs hsz hT hko hz hlen hl
        obtain ⟨G', hn1, hn2, hn3, hn4⟩ := new_arr inv (T := T) (xs := xs) w (.inl rfl) C el len hT (by omega) hC hcells none
        have hl' : (ob ++ [AO.arr T xs]).length = ob.length + 1 := by simp
        rw [hxl] at hn4
        exact ⟨_, _, _, _, G', e, by rw [hl']; exact hn4, hn1, hn2, by rw [hl']; omega, hrun⟩
      · cases e
    · split at e
      · rename_i hc
        obtain ⟨hsz, hko, hag, hz, hlen, hpos, hkeys, hok⟩ := hc
        have hko' := isOther_false hko
        obtain ⟨i, z, hi, hs, hb, hzz, hzc, _⟩ := ((tt el).resolve_left hko').2
        have hpl : parts.length = len := by have := congrArg List.length hkeys; simpa using this
        obtain ⟨C, h1, h2, h3⟩ := fslFill parts vs.toList [] (madeCells z.cells (len * 1)) hp (by rw [hkeys, hpl]; exact List.range_eq_range') hok (by rw [size_madeCells]; simp [hpl]) (fun i hi => by cases hi)
        have hsz' : i.size = 1 := hs.trans hsz
        have hn : ¬ (len * 1 > 2 ^ 24) := by simp; omega
        have h0 : ¬ (len * 1 = 0) := by omega
        have hfill : Instr.fill (fun i => some (i * 1, 1)) ((Array.range (len * 1)).map (z.cells[· % z.cells.size]!)) vs.toList = some C := h1
        have hrun : (Instr.buildSlice t len vs).run P w = .ok (.slice (some ⟨w.heap.size, 0, none⟩) len len) (w.alloc (.cells C el)) := by
          simp only [Instr.buildSlice, Sem.run_bind, run_underlying hu, Result.andThen_ok, sizeOf, typeInfo, run_program, hi, Sem.run_pure, hsz', if_neg hn, if_neg h0, zeroValue, hzz]
          rw [hfill]
          rfl
        obtain ⟨hg1, hg2⟩ := inv.grow (w' := w.alloc (.cells C el)) rfl rfl rfl (by simp) (fun b hb => heap_alloc_old w _ b hb)
        refine ⟨_, _, _, _, G, e, ?_, hg1, hg2, Nat.le_refl _, hrun⟩
        have hst := hg2.stays (F := F) (Nat.le_refl _)
        have hrow := alloc_row w C el
        have hml : (parts.map (·.2)).length = len := by simpa using hpl
        simp only [List.length_nil, Nat.zero_add, List.nil_append] at h3
        rw [show Value.slice (some ⟨w.heap.size, 0, none⟩) len len = Value.slice (some ⟨w.heap.size, 0, none⟩) (parts.map (·.2)).length len by rw [hml]]
        refine .fsl _ w.heap.size 0 len (fun i => C.getD i undef) (fun e => by rw [e] at hml; simp at hml; omega) (by omega) (fun hav => ?_) (fun m hm => ?_) (fun i hi => (h3 i (by rw [hpl]; omega)).stays hst)
        · rcases hav with hF | ⟨j, g, hg, hb⟩
          · exact absurd (inv.old _ hF) (Nat.lt_irrefl _)
          · exact absurd (inv.free j g _ hg hb).2 (Nat.lt_irrefl _)
        · rw [Nat.zero_add]; exact hrow.cells m (by rw [h2, size_madeCells]; omega)
      · cases e
    · cases e
  · cases e

/-! ### Structs -/

theorem buildCells_sound (tt : TTok P TT) (fs : List (Nat × Nat)) (pl : Nat → Option (Nat × Nat))
    (hpl : ∀ (i ft off : Nat), fs[i]? = some (ft, off) → pl i = some (off, (TT ft).size)) :
    ∀ (l : List (Nat × AV)) (m : List (Nat × Value)) (cs ds : List AV) (vs : Array Value), Parts A w n G l m → buildCells fs TT l cs = some ds →
      cs.length = vs.size → (∀ i, i < cs.length → Rep A w n G (cs.getD i .dead) (vs.getD i undef)) →
      ∃ vs', Instr.fill pl vs m = some vs' ∧ ds.length = vs'.size ∧ ∀ i, i < ds.length → Rep A w n G (ds.getD i .dead) (vs'.getD i undef)
  | _, _, cs, ds, vs, .nil, h, hl, hr => by
    simp only [buildCells, Option.some.injEq] at h
    subst h
    exact ⟨vs, rfl, hl, hr⟩
  | _, _, cs, ds, vs, .cons i x v l m hx ht, h, hl, hr => by
    simp only [buildCells] at h
    split at h
    · rename_i ft off hf
      split at h
      · rename_i hc
        obtain ⟨h1, h2, h3⟩ := cells_rep hx hc.2.2
        obtain ⟨vs', e1, e2, e3⟩ := fill_step pl vs i v m off (TT ft).size (hpl i ft off hf) (by omega) (by omega)
        obtain ⟨vs'', f1, f2, f3⟩ := buildCells_sound tt fs pl hpl l m _ ds vs' ht h (by rw [setCells_length]; omega) (fun j hj => by
          rw [setCells_length] at hj
          rw [setCells_get _ _ _ _ hc.2.1, e3]
          by_cases hin : off ≤ j ∧ j < off + x.cells.length
          · rw [if_pos hin, if_pos (by omega)]
            exact h2 _ (by omega)
          · rw [if_neg hin, if_neg (by omega)]
            exact hr j hj)
        exact ⟨vs'', by rw [e1]; exact f1, f2, f3⟩
      · cases h
    · cases h

theorem run_mapM {α β : Type} (g : α → Sem β) (h : α → β) : ∀ (l : List α) (_ : ∀ x ∈ l, (g x).run P w = .ok (h x) w), (l.mapM g).run P w = .ok (l.map h) w
  | [], _ => by simp
  | x :: l, hl => by
    rw [List.mapM_cons]
    simp [hl x (by simp), run_mapM g h l (fun y hy => hl y (by simp [hy]))]

theorem buildK_sound (tt : TTok P TT) {t : Nat} {parts : List (Nat × AV)} {vs : Array (Nat × Value)} {k : AV → Option ρ} (e : buildK TT t parts k = some r) (hp : Parts A w n G parts vs.toList) :
    ∃ v z, k v = some r ∧ Rep A w n G v z ∧ (Instr.build t vs).run P w = .ok z w := by
  unfold buildK at e
  split at e
  · rename_i fs hk
    split at e
    · rename_i hall
      split at e
      · rename_i ds hb
        obtain ⟨fields, hu, hm⟩ := tt_st tt hk
        have hko : (TT t).kind ≠ .other := by rw [hk]; simp
        obtain ⟨z, hz, hzc, _⟩ := tt_zero tt hko w
        subst hm
        have hmap : (fields.mapM fun (f : Field) => (do pure (f.offset, ← sizeOf f.type) : Sem (Nat × Nat))).run P w = .ok (fields.map fun (f : Field) => (f.offset, (TT f.type).size)) w := by
          rw [Array.mapM_eq_mapM_toList]
          have := run_mapM (P := P) (w := w) (fun f : Field => (do pure (f.offset, ← sizeOf f.type) : Sem (Nat × Nat))) (fun f => (f.offset, (TT f.type).size)) fields.toList (fun f hf => by
            have hkf : (TT f.type).kind.isOther = false := by
              have := List.all_eq_true.1 hall (f.type, f.offset) (List.mem_map.2 ⟨f, hf, rfl⟩)
              simpa using this
            have := tt_size tt (isOther_false hkf) w
            simp [this])
          rw [Sem.run_map, this]
          simp only [Result.andThen_ok, Result.ok.injEq, and_true]
          apply Array.ext'
          simp
        obtain ⟨vs', h1, h2, h3⟩ := buildCells_sound (A := A) (w := w) (n := n) (G := G) tt _ ((fields.map fun (f : Field) => (f.offset, (TT f.type).size))[·]?) (fun i ft off h => by
            rw [List.getElem?_map] at h
            cases hq : fields.toList[i]? with
            | none => rw [hq] at h; cases h
            | some fd =>
              rw [hq] at h
              simp only [Option.map_some, Option.some.injEq, Prod.mk.injEq] at h
              have hq' : fields[i]? = some fd := by simpa using hq
              rw [Array.getElem?_map, hq']
              simp [h.1, h.2]) _ _ ((TT t).zero.map constAV1) ds z.cells hp hb (by rw [← hzc]; simp) (fun i hi => by
            have hi' : i < z.cells.size := by rw [← hzc] at hi; simpa using hi
            have e1 : ((TT t).zero.map constAV1).getD i .dead = constAV1 (z.cells.getD i undef) := by
              rw [← hzc]; simp [List.getD, Array.getD, hi']
            rw [e1]; exact rep_const1 _)
        refine ⟨_, _, e, .agg ds vs' h2 h3, ?_⟩
        simp only [Instr.build, Sem.run_bind, hz, Result.andThen_ok, run_underlying hu, hmap, h1, Sem.run_pure]
      · cases e
    · cases e
  · rename_i m el hk
    split at e
    · rename_i hko
      split at e
      · rename_i ds hb
        have hu := tt_arr tt hk
        obtain ⟨z, hz, hzc, _⟩ := tt_zero tt (t := t) (by rw [hk]; simp) w
        have hs := tt_size tt (isOther_false hko) w
        obtain ⟨vs', h1, h2, h3⟩ := buildCells_sound (A := A) (w := w) (n := n) (G := G) tt _ (fun i => some (i * (TT el).size, (TT el).size)) (fun i ft off h => by
            rw [List.getElem?_map] at h
            cases hq : (List.range m)[i]? with
            | none => rw [hq] at h; cases h
            | some q =>
              rw [hq] at h
              simp only [Option.map_some, Option.some.injEq, Prod.mk.injEq] at h
              have hqi : q = i := by
                have := List.getElem?_eq_some_iff.1 hq
                obtain ⟨_, h2⟩ := this
                simpa using h2.symm
              rw [← h.1, ← h.2, hqi]) _ _ ((TT t).zero.map constAV1) ds z.cells hp hb (by rw [← hzc]; simp) (fun i hi => by
            have hi' : i < z.cells.size := by rw [← hzc] at hi; simpa using hi
            have e1 : ((TT t).zero.map constAV1).getD i .dead = constAV1 (z.cells.getD i undef) := by
              rw [← hzc]; simp [List.getD, Array.getD, hi']
            rw [e1]; exact rep_const1 _)
        refine ⟨_, _, e, .agg ds vs' h2 h3, ?_⟩
        simp only [Instr.build, Sem.run_bind, hz, Result.andThen_ok, run_underlying hu, hs, h1, Sem.run_pure]
      · cases e
    · cases e
  · cases e

theorem alloc_sound (tt : TTok P TT) (inv : Inv F w G ob) {t : Nat} (hk : (TT t).kind ≠ .other) (_hz0 : (TT t).zero ≠ []) :
    ∃ z w' G', Rep (avoid F G') w' (ob.length + 1) G' (.ptr ob.length 0 0) z ∧ Inv F w' G' (ob ++ [.box ((TT t).zero.map constAV1)]) ∧ Trans ob.length w G w' G' ∧
      (Instr.alloc t true (.tuple #[])).run P w = .ok z w' := by
  obtain ⟨z, hz, hzc, _⟩ := tt_zero tt hk w
  let g : Gh := ⟨some w.heap.size, 0, ((TT t).zero.map constAV1).length, 1, 0⟩
  have hp := inv.push (w' := w.alloc (.cells z.cells t)) none g (.box ((TT t).zero.map constAV1)) rfl rfl rfl (by simp) (fun b hb _ => heap_alloc_old w _ b hb)
    (fun b hb => by
      have : w.heap.size = b := by simpa [g] using hb
      subst this
      exact ⟨by simp, .inl (Nat.le_refl _)⟩)
    (fun st => by
      refine ⟨rfl, ⟨rfl, rfl⟩, w.heap.size, rfl, fun i => z.cells.getD i undef, ?_, fun j hj => ?_⟩
      · have hr := alloc_row w z.cells t
        have : 0 + ((TT t).zero.map constAV1).length = z.cells.size := by rw [← hzc]; simp
        rw [this]; exact hr
      · have hi' : j < z.cells.size := by rw [← hzc] at hj; simpa using hj
        have e1 : ((TT t).zero.map constAV1).getD j .dead = constAV1 (z.cells.getD j undef) := by
          rw [← hzc]; simp [List.getD, Array.getD, hi']
        rw [e1]
        simp only [g, Nat.zero_add]
        exact rep_const1 _)
  refine ⟨.pointer (some ⟨w.heap.size, 0, none⟩), _, _, .ptr _ 0 0 _ (by omega) ⟨_, _, rfl⟩ fun g' hg' => ?_, by simpa [killL] using hp.1, hp.2.1, by simp [Instr.alloc, hz, newVar, newRow]⟩
  have e1 : g = g' := by simpa [Gs.push] using hg'
  subst e1
  exact ⟨by simp [g], w.heap.size, rfl, by simp [g]⟩

theorem boxK_sound (inv : Inv F w G ob) {h : OA} {t : Nat} {x : AV} {a : Value} {k : AV → List AO → Option ρ} (e : boxK h x ob k = some r) (hx : Rep (avoid F G) w ob.length G x a) :
    ∃ v z ob' w' G', k v ob' = some r ∧ Rep (avoid F G') w' ob'.length G' v z ∧ Inv F w' G' ob' ∧ Trans ob.length w G w' G' ∧ ob.length ≤ ob'.length ∧ (Instr.box t a).run P w = .ok z w' := by
  have hrun : (Instr.box t a).run P w = .ok (.pointer (some ⟨w.heap.size, 0, none⟩)) (w.alloc (.cells a.cells t)) := by simp [Instr.box, newVar, newRow]
  unfold boxK at e
  split at e
  · rename_i T
    split at e
    · rename_i hT
      simp only [Option.bind_eq_some_iff] at e
      obtain ⟨d, hd, e⟩ := e
      obtain ⟨h1, h2, h3⟩ := ofAV_rep hd hx
      obtain ⟨hg1, hg2⟩ := inv.grow (w' := w.alloc (.cells a.cells t)) rfl rfl rfl (by simp) (fun b hb => heap_alloc_old w _ b hb)
      have hst := hg2.stays (F := F) (Nat.le_refl _)
      have hrow := alloc_row w a.cells t
      refine ⟨_, _, _, _, G, e, ?_, hg1, hg2, Nat.le_refl _, hrun⟩
      exact .iptr T d 0 w.heap.size 0 (fun i => a.cells.getD i undef) hT (fun hav => by
        rcases hav with hF | ⟨j, g, hg, hb⟩
        · exact absurd (inv.old _ hF) (Nat.lt_irrefl _)
        · exact absurd (inv.free j g _ hg hb).2 (Nat.lt_irrefl _)) (fun m hm => by rw [Nat.zero_add]; exact hrow.cells m (by omega)) (fun j hj => (h3 j hj).stays hst)
    · cases e
  · split at e
    · rename_i hok
      obtain ⟨h1, h2, h3⟩ := cells_rep hx hok
      let g : Gh := ⟨some w.heap.size, 0, x.cells.length, 1, 0⟩
      have hp := inv.push (w' := w.alloc (.cells a.cells t)) none g (.box x.cells) rfl rfl rfl (by simp) (fun b hb _ => heap_alloc_old w _ b hb)
        (fun b hb => by
          have : w.heap.size = b := by simpa [g] using hb
          subst this
          exact ⟨by simp, .inl (Nat.le_refl _)⟩)
        (fun st => by
          refine ⟨rfl, ⟨rfl, rfl⟩, w.heap.size, rfl, fun i => a.cells.getD i undef, ?_, fun j hj => ?_⟩
          · have hr := alloc_row w a.cells t
            have : 0 + x.cells.length = a.cells.size := by omega
            rw [this]; exact hr
          · simp only [g, Nat.zero_add]
            exact (h2 j hj).stays st)
      have hl : (ob ++ [AO.box x.cells]).length = ob.length + 1 := by simp
      refine ⟨_, _, _, _, _, e, ?_, by simpa [killL] using hp.1, hp.2.1, by omega, hrun⟩
      rw [hl]
      refine .ptr _ 0 0 _ (by omega) ⟨_, _, rfl⟩ fun g' hg' => ?_
      have e1 : g = g' := by simpa [Gs.push] using hg'
      subst e1
      exact ⟨by simp [g], w.heap.size, rfl, by simp [g]⟩
    · cases e
end

end Go.Proofs.YtlbammfnkphajaaGreatDoor.Abs
