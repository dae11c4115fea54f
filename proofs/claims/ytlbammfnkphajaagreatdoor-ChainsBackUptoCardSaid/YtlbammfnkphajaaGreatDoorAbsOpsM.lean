/- Comparisons of structs and with nil; maps; copies and clearings. -/
import Derived.Test.YtlbammfnkphajaaGreatDoorAbsOpsH
import Derived.Laws.StructEq
import Derived.Laws.Pointers
import Derived.Laws.Cover3
import Derived.ChangeKeysEq
namespace Go.Proofs.YtlbammfnkphajaaGreatDoor.Abs
open Go

section
variable {F : Nat → Prop} {w : World} {G : Gs} {ob : List AO} {P : Program} {TT : Nat → TI} {ρ : Type} {r : ρ} {A : Nat → Prop} {n : Nat}

/-! ### Data and values -/

theorem Rep.mono {A A' : Nat → Prop} {w : World} {n : Nat} {G : Gs} (hA : ∀ b, A' b → A b) {x : AV} {v : Value} (h : Rep A w n G x v) : Rep A' w n G x v :=
  h.stays (w' := w) ⟨fun b _ _ hb => ⟨rfl, fun h' => hb (hA b h')⟩, Nat.le_refl _, fun _ _ => .inr rfl⟩

theorem ofAV_toAV {A : Nat → Prop} {w : World} {n : Nat} {G : Gs} {T : Ty} {x : AV} {d : T.D} {v : Value} (h : ofAV T x = some d) (hx : Rep A w n G x v) : Rep A w n G (toAV T d) v := by
  have h3 := ofAV_rep h hx
  unfold ofAV at h
  split at h
  case isFalse => cases h
  rename_i hag
  cases T with
  | pair a b =>
    cases x <;> simp [AV.isAgg, Ty.isAgg] at hag
    cases hx with
    | agg cs vs hl hr => exact .agg _ vs (by rw [show (cellsAV a d.1 ++ cellsAV b d.2).length = _ from cellsAV_length (.pair a b) d]; exact h3.1.symm) fun i hi => h3.2.2 i (by rw [← cellsAV_length (.pair a b) d]; exact hi)
  | st a =>
    cases x <;> simp [AV.isAgg, Ty.isAgg] at hag
    cases hx with
    | agg cs vs hl hr => exact .agg _ vs (by rw [cellsAV_length]; exact h3.1.symm) fun i hi => h3.2.2 i (by rw [cellsAV_length] at hi; exact hi)
  | unit =>
    cases x <;> simp [AV.isAgg, Ty.isAgg] at hag
    cases hx with
    | agg cs vs hl hr => exact .agg _ vs h3.1.symm fun i hi => by cases hi
  | int k =>
    have hc : v.cells = #[v] ∨ True := .inr trivial
    have := h3.2.2 0 (by simp [Ty.size])
    have hv : v.cells = #[v] := (cell_one hx (by
      cases x <;> simp [AV.isAgg, Ty.isAgg] at hag <;> first | rfl | (simp [AV.cells, ofCells] at h))).2
    rw [hv] at this
    simpa [cellsAV, toAV] using this
  | bool =>
    have := h3.2.2 0 (by simp [Ty.size])
    have hv : v.cells = #[v] := (cell_one hx (by
      cases x <;> simp [AV.isAgg, Ty.isAgg] at hag <;> first | rfl | (simp [AV.cells, ofCells] at h))).2
    rw [hv] at this
    simpa [cellsAV, toAV] using this
  | str =>
    have := h3.2.2 0 (by simp [Ty.size])
    have hv : v.cells = #[v] := (cell_one hx (by
      cases x <;> simp [AV.isAgg, Ty.isAgg] at hag <;> first | rfl | (simp [AV.cells, ofCells] at h))).2
    rw [hv] at this
    simpa [cellsAV, toAV] using this
  | sl e =>
    have := h3.2.2 0 (by simp [Ty.size])
    have hv : v.cells = #[v] := (cell_one hx (by
      cases x <;> simp [AV.isAgg, Ty.isAgg] at hag <;> first | rfl | (simp [AV.cells, ofCells] at h))).2
    rw [hv] at this
    simpa [cellsAV, toAV] using this
  | nsl e =>
    have := h3.2.2 0 (by simp [Ty.size])
    have hv : v.cells = #[v] := (cell_one hx (by
      cases x <;> simp [AV.isAgg, Ty.isAgg] at hag <;> first | rfl | (simp [AV.cells, ofCells] at h))).2
    rw [hv] at this
    simpa [cellsAV, toAV] using this
  | ptr e =>
    have := h3.2.2 0 (by simp [Ty.size])
    have hv : v.cells = #[v] := (cell_one hx (by
      cases x <;> simp [AV.isAgg, Ty.isAgg] at hag <;> first | rfl | (simp [AV.cells, ofCells] at h))).2
    rw [hv] at this
    simpa [cellsAV, toAV] using this
  | map K V =>
    have := h3.2.2 0 (by simp [Ty.size])
    have hv : v.cells = #[v] := (cell_one hx (by
      cases x <;> simp [AV.isAgg, Ty.isAgg] at hag <;> first | rfl | (simp [AV.cells, ofCells] at h))).2
    rw [hv] at this
    simpa [cellsAV, toAV] using this

/-! ### Structs -/

/-- No field is blank; no address is looked at. -/
def eqTypeB (P : Program) (t : TypeId) : Bool :=
  !P.eqGuardType P.depth t &&
  match P.underlying t with
  | some (.struct fs) => !P.stoodInHeld t && fs.toList.all fun x => x.name != "_"
  | _ => true

theorem eqAV_sound (tt : TTok P TT) {t : Nat} {x y : AV} {c : Bool} {a b : Value} (h : eqAV (TT t).kind x y = some c) (hx : Rep A w n G x a) (hy : Rep A w n G y b) (d : Nat) (w' : World) :
    (Op.equalIn (d + 1) t a b).run P w' = .ok c w' ∧ ∀ (cs : Array Value) (o : Nat), o < cs.size → (part t cs o).run P w' = .ok (cs.getD o undef) w' := by
  have hp : ∀ q, P.underlying t = some q → (∃ k, q = .int k) ∨ q = .string ∨ q = .bool → ∀ (cs : Array Value) (o : Nat), o < cs.size → (part t cs o).run P w' = .ok (cs.getD o undef) w' := by
    intro q hq hh cs o ho
    rcases hh with ⟨k, rfl⟩ | rfl | rfl <;> simp [part, isAgg, run_underlying hq, ho, Array.getD]
  unfold eqAV at h
  split at h
  · rename_i kk k m k' m' hk
    cases hx; cases hy
    split at h
    · rename_i hkk
      subst hkk
      simp only [Option.some.injEq] at h
      subst h
      exact ⟨run_equalIn_int w' d t k _ m m' (tt_int tt hk), hp _ (tt_int tt hk) (.inl ⟨_, rfl⟩)⟩
    · cases h
  · rename_i hk
    cases hx; cases hy
    simp only [Option.some.injEq] at h
    subst h
    refine ⟨?_, hp _ (tt_str tt hk) (.inr (.inl rfl))⟩
    rw [run_equalIn_string w' d t _ _ (tt_str tt hk), ByteArray.toList_eq, ByteArray.toList_eq]
  · rename_i hk
    cases hx; cases hy
    simp only [Option.some.injEq] at h
    subst h
    obtain ⟨q, hq, hf⟩ := tt_desc tt (t := t) (by rw [hk]; simp)
    rw [hk] at hf
    cases q <;> simp only [TK.fits] at hf
    exact ⟨run_equalIn_bool' w' d t _ _ hq, hp _ hq (.inr (.inr rfl))⟩
  · cases h

theorem offs_get : ∀ (fs : List (Nat × Nat)) (i j : Nat) (f : Nat × Nat), offsOk fs i = true → fs[j]? = some f → f.2 = i + j
  | [], _, _, _, _, h => by cases h
  | g :: fs, i, 0, f, ho, h => by
    simp only [List.getElem?_cons_zero, Option.some.injEq] at h
    subst h
    simp only [offsOk, Bool.and_eq_true, beq_iff_eq] at ho
    exact ho.1
  | g :: fs, i, j + 1, f, ho, h => by
    simp only [offsOk, Bool.and_eq_true] at ho
    have := offs_get fs (i + 1) j f ho.2 (by simpa using h)
    omega

/-- One cell behind the other. -/
def eqRun (d : Nat) (xs ys : Array Value) : List Nat → Nat → Sem Bool
  | [], _ => pure true
  | t :: ts, o => do
    let a ← part t xs o
    let b ← part t ys o
    let r ← Op.equalIn d t a b
    if (!r) = true then pure false else eqRun d xs ys ts (o + 1)

theorem eqRun_sound (tt : TTok P TT) (d : Nat) (w' : World) : ∀ (ts : List Nat) (cs ds : List AV) (xs ys : Array Value) (o : Nat) (c : Bool), eqCells (ts.map fun t => (TT t).kind) cs ds = some c →
    o + cs.length = xs.size → o + ds.length = ys.size → (∀ i, i < cs.length → Rep A w n G (cs.getD i .dead) (xs.getD (o + i) undef)) → (∀ i, i < ds.length → Rep A w n G (ds.getD i .dead) (ys.getD (o + i) undef)) →
    (eqRun (d + 1) xs ys ts o).run P w' = .ok c w'
  | [], [], [], xs, ys, o, c, h, _, _, _, _ => by
    simp only [List.map_nil, eqCells, Option.some.injEq] at h
    subst h; simp [eqRun]
  | [], [], _ :: _, _, _, _, _, h, _, _, _, _ => by simp [eqCells] at h
  | [], _ :: _, _, _, _, _, _, h, _, _, _, _ => by simp [eqCells] at h
  | [t], [x], [y], xs, ys, o, c, h, h1, h2, hx, hy => by
    simp only [List.map_cons, List.map_nil, eqCells] at h
    have hx0 := hx 0 (by simp)
    have hy0 := hy 0 (by simp)
    simp only [List.getD_cons_zero, Nat.add_zero] at hx0 hy0
    obtain ⟨g1, g2⟩ := eqAV_sound tt h hx0 hy0 d w'
    simp only [List.length_cons, List.length_nil] at h1 h2
    rw [eqRun, Sem.run_bind, g2 xs o (by omega), Result.andThen_ok, Sem.run_bind, g2 ys o (by omega), Result.andThen_ok, Sem.run_bind, g1, Result.andThen_ok]
    cases c <;> simp [eqRun]
  | [t], [], _, _, _, _, _, h, _, _, _, _ => by simp [eqCells] at h
  | [t], [_], [], _, _, _, _, h, _, _, _, _ => by simp [eqCells] at h
  | [t], [_], _ :: _ :: _, _, _, _, _, h, _, _, _, _ => by simp [eqCells] at h
  | [t], _ :: _ :: _, _, _, _, _, _, h, _, _, _, _ => by simp [eqCells] at h
  | t :: u :: ts, [], _, _, _, _, _, h, _, _, _, _ => by simp [eqCells] at h
  | t :: u :: ts, _ :: _, [], _, _, _, _, h, _, _, _, _ => by simp [eqCells] at h
  | t :: u :: ts, x :: cs, y :: ds, xs, ys, o, c, h, h1, h2, hx, hy => by
    simp only [List.map_cons, eqCells, Option.bind_eq_some_iff, Option.some.injEq] at h
    obtain ⟨a, e1, b, e2, rfl⟩ := h
    have hx0 := hx 0 (by simp)
    have hy0 := hy 0 (by simp)
    simp only [List.getD_cons_zero, Nat.add_zero] at hx0 hy0
    obtain ⟨g1, g2⟩ := eqAV_sound tt e1 hx0 hy0 d w'
    simp only [List.length_cons] at h1 h2
    have ih := eqRun_sound tt d w' (u :: ts) cs ds xs ys (o + 1) b e2 (by omega) (by omega) (fun i hi => by
      have := hx (i + 1) (by simpa using hi)
      simpa [Nat.add_assoc, Nat.add_comm 1 i] using this) (fun i hi => by
      have := hy (i + 1) (by simpa using hi)
      simpa [Nat.add_assoc, Nat.add_comm 1 i] using this)
    rw [eqRun, Sem.run_bind, g2 xs o (by omega), Result.andThen_ok, Sem.run_bind, g2 ys o (by omega), Result.andThen_ok, Sem.run_bind, g1, Result.andThen_ok]
    cases a
    · simp
    · simpa using ih

theorem eqFields_run (d : Nat) (xs ys : Array Value) : ∀ (fs : List Field) (o : Nat), (∀ f ∈ fs, f.name ≠ "_") → offsOk (fs.map fun f => (f.type, f.offset)) o = true →
    Op.eqFields d xs ys fs = eqRun d xs ys (fs.map (·.type)) o
  | [], _, _, _ => rfl
  | f :: fs, o, hn, ho => by
    simp only [List.map_cons, offsOk, Bool.and_eq_true, beq_iff_eq] at ho
    have h1 := hn f (by simp)
    rw [Op.eqFields, if_pos h1, ho.1]
    simp only [List.map_cons, eqRun]
    rw [eqFields_run d xs ys fs (o + 1) (fun g hg => hn g (List.mem_cons_of_mem _ hg)) ho.2]

theorem eqItems_run (d : Nat) (e : TypeId) (xs ys : Array Value) : ∀ (m o : Nat), Op.eqItems d e 1 xs ys (List.range' o m) = eqRun d xs ys (List.replicate m e) o
  | 0, _ => rfl
  | m + 1, o => by
    rw [List.range'_succ, List.replicate_succ]
    simp only [Op.eqItems, eqRun, Nat.mul_one]
    rw [eqItems_run d e xs ys m (o + 1)]

theorem eqsK_sound (tt : TTok P TT) {t : Nat} (ht : eqTypeB P t = true) {op : BinOp} {x y : AV} {a b : Value} {k : AV → Option ρ} (e : eqsK TT t op x y k = some r) (hx : Rep A w n G x a) (hy : Rep A w n G y b) :
    ∃ v z, k v = some r ∧ Rep A w n G v z ∧ ∀ (X Y : Operand) (w : World), (do eqGuard op t X Y a b; binOp op t a b : Sem Value).run P w = .ok z w := by
  unfold eqsK at e
  split at e
  · cases e
  rename_i qs hqs
  have key : ∀ (cs ds : List AV) (c : Bool) (xs ys : Array Value), eqCells qs cs ds = some c → cs.length = xs.size → ds.length = ys.size →
      (∀ i, i < cs.length → Rep A w n G (cs.getD i .dead) (xs.getD i undef)) → (∀ i, i < ds.length → Rep A w n G (ds.getD i .dead) (ys.getD i undef)) →
      ∀ w', (Op.equalIn 10000 t (.agg xs) (.agg ys)).run P w' = .ok c w' := by
    intro cs ds c xs ys he h1 h2 hx hy w'
    simp only [eqTypeB, Bool.and_eq_true] at ht
    unfold kindsOf at hqs
    split at hqs
    · rename_i fs hk
      split at hqs
      · rename_i ho
        simp only [Option.some.injEq] at hqs
        subst hqs
        obtain ⟨fields, hf, hfs⟩ := tt_st tt hk
        rw [hf] at ht
        simp only [Bool.and_eq_true, Bool.not_eq_true', List.all_eq_true, bne_iff_ne, ne_eq] at ht
        have hof : P.fieldsOf t = fields := by simp [Program.fieldsOf, hf]
        rw [show (10000 : Nat) = 9999 + 1 from rfl, run_equalIn_struct w' 9999 t xs ys (by rw [hof]; exact hf) ht.2.1, hof, eqFields_run _ _ _ _ 0 ht.2.2 (by rw [hfs]; exact ho)]
        have hm : (fs.map fun f => (TT f.1).kind) = ((fields.toList.map (·.type)).map fun t => (TT t).kind) := by rw [← hfs]; simp
        rw [hm] at he
        exact eqRun_sound tt 9998 w' _ cs ds xs ys 0 c he (by simpa using h1) (by simpa using h2) (fun i hi => by simpa using hx i hi) (fun i hi => by simpa using hy i hi)
      · cases hqs
    · rename_i m el hk
      split at hqs
      · rename_i hs
        simp only [Option.some.injEq] at hqs
        subst hqs
        obtain ⟨q, hq, hf⟩ := tt_desc tt (t := t) (by rw [hk]; simp)
        rw [hk] at hf
        cases q <;> simp only [TK.fits] at hf
        obtain ⟨rfl, rfl⟩ := hf
        rename_i m el
        simp only [Bool.and_eq_true, beq_iff_eq, Bool.not_eq_true'] at hs
        obtain ⟨i, z, hi, hsz, _⟩ := ((tt el).resolve_left (isOther_false hs.2)).2
        have hc1 : P.cellsOf el = 1 := by simp [Program.cellsOf, hi, hsz, hs.1]
        rw [show (10000 : Nat) = 9999 + 1 from rfl, run_equalIn_array w' 9999 xs ys hq hi, hc1, List.range_eq_range', eqItems_run]
        have hm : List.replicate m (TT el).kind = ((List.replicate m el).map fun t => (TT t).kind) := by simp
        rw [hm] at he
        exact eqRun_sound tt 9998 w' _ cs ds xs ys 0 c he (by simpa using h1) (by simpa using h2) (fun i hi => by simpa using hx i hi) (fun i hi => by simpa using hy i hi)
      · cases hqs
    · cases hqs
  split at e
  · simp only [Option.bind_eq_some_iff] at e
    obtain ⟨c, hc, e⟩ := e
    cases hx with
    | agg _ xs hl hr =>
      cases hy with
      | agg _ ys hl' hr' =>
        have hk := key _ _ c xs ys hc hl hl' hr hr'
        simp only [eqTypeB, Bool.and_eq_true, Bool.not_eq_true'] at ht
        refine ⟨_, _, e, .bool c, fun X Y w' => ?_⟩
        rw [Sem.run_bind, run_eqGuard_agg w' _ t X Y xs ys ht.1, Result.andThen_ok, run_eql_struct, hk w']
        rfl
  · simp only [Option.bind_eq_some_iff] at e
    obtain ⟨c, hc, e⟩ := e
    cases hx with
    | agg _ xs hl hr =>
      cases hy with
      | agg _ ys hl' hr' =>
        have hk := key _ _ c xs ys hc hl hl' hr hr'
        simp only [eqTypeB, Bool.and_eq_true, Bool.not_eq_true'] at ht
        refine ⟨_, _, e, .bool (!c), fun X Y w' => ?_⟩
        rw [Sem.run_bind, run_eqGuard_agg w' _ t X Y xs ys ht.1, Result.andThen_ok, run_neq_struct, hk w']
        rfl
  · cases e

/-! ### Comparisons with nil -/

theorem tt_ptr (tt : TTok P TT) {t e : Nat} (h : (TT t).kind = .ptr e) : P.underlying t = some (.pointer e) := by
  obtain ⟨d, hd, hf⟩ := tt_desc tt (t := t) (by rw [h]; simp)
  rw [h] at hf
  cases d <;> simp only [TK.fits] at hf
  subst hf; exact hd

theorem agree_left {a b : Option ρ} (h : agree a b = some r) : a = some r ∧ b = some r := by
  unfold agree at h
  split at h
  · rename_i e; exact ⟨h, e ▸ h⟩
  · cases h

theorem run_eql_slice_nil' {t e : TypeId} (h : P.underlying t = some (.slice e)) (a : Option Addr) (l c : Nat) (w : World) : (binOp .eql t (.slice a l c) (.slice none 0 0)).run P w = .ok (.bool a.isNone) w := by
  simp only [binOp]
  simp [run_equal_slice_nil w t e a l c h]

theorem run_eql_map_nil' {t q e : TypeId} (h : P.underlying t = some (.map q e)) (m : Option Nat) (w : World) : (binOp .eql t (.map m) (.map none)).run P w = .ok (.bool m.isNone) w := by
  simp only [binOp]
  simp [run_equal_map_nil w t q e m h]

theorem run_equalIn_func (d : Nat) {t : TypeId} {ps rs : Array TypeId} {v : Bool} (h : P.underlying t = some (.func ps rs v)) (a : Value) (c : Bool) (ha : (a = .nilFunc ∧ c = true) ∨ ∃ f x y, a = .func f x y ∧ c = false) (w : World) :
    (Op.equalIn (d + 1) t a .nilFunc).run P w = .ok c w := by
  rcases ha with ⟨rfl, rfl⟩ | ⟨f, x, y, rfl, rfl⟩ <;> simp [Op.equalIn, run_underlying h]

theorem run_func_nil {t : TypeId} {ps rs : Array TypeId} {v : Bool} (h : P.underlying t = some (.func ps rs v)) (a : Value) (c : Bool) (ha : (a = .nilFunc ∧ c = true) ∨ ∃ f x y, a = .func f x y ∧ c = false) (w : World) :
    (binOp .eql t a .nilFunc).run P w = .ok (.bool c) w ∧ (binOp .neq t a .nilFunc).run P w = .ok (.bool (!c)) w := by
  have key : (Op.equal t a .nilFunc).run P w = .ok c w := by
    exact run_equalIn_func 9999 h a c ha w
  rcases ha with ⟨rfl, rfl⟩ | ⟨f, x, y, rfl, rfl⟩ <;> constructor <;> simp only [binOp] <;> simp [key]

/-- What is known of a comparison holds. -/
def NilCmp.holds (c : NilCmp) (b : Bool) : Prop :=
  match c with
  | .is b' => b = b'
  | .empty e => e = false → b = false
  | .no => True

theorem nilGo_sound {c : NilCmp} {b neg : Bool} {k : AV → Option ρ} (h : c.holds b) (e : nilGo c neg k = some r) : k (.bool (b ^^ neg)) = some r := by
  unfold nilGo at e
  split at e
  · simp only [NilCmp.holds] at h; subst h; exact e
  · rename_i q
    split at e
    · obtain ⟨h1, h2⟩ := agree_left e
      cases b
      · exact h2
      · exact h1
    · rename_i hq
      have : b = false := h (by simpa using hq)
      subst this; exact e
  · cases e

theorem nil_sound (tt : TTok P TT) (inv : Inv F w G ob) {t : Nat} {x y : AV} {a b : Value} (hn : isNil (TT t).kind y = true) (hno : nilOf (TT t).kind x ob ≠ .no) (hx : Rep (avoid F G) w ob.length G x a) (hy : Rep (avoid F G) w ob.length G y b) :
    ∃ c, (nilOf (TT t).kind x ob).holds c ∧ (∀ w, (binOp .eql t a b).run P w = .ok (.bool c) w ∧ (binOp .neq t a b).run P w = .ok (.bool (!c)) w) ∧ ∀ op (X Y : Operand) (w : World), (eqGuard op t X Y a b).run P w = .ok () w := by
  have hg : ∀ (a b : Value), (a ≠ .nilIface ∨ b ≠ .nilIface) → (∀ cs, a ≠ .agg cs) → ∀ op (X Y : Operand) (w : World), (eqGuard op t X Y a b).run P w = .ok () w := by
    intro a b h1 h2 op X Y w
    unfold eqGuard
    cases op <;> simp
    all_goals
      split
      · rename_i h; simp at h1
      · exact absurd rfl (h2 _)
      · rfl
  cases hk : (TT t).kind <;> rw [hk] at hn hno <;> cases y <;> simp only [isNil] at hn <;> try cases hn
  · -- slices
    rename_i el
    have hu := tt_sl tt hk
    cases hy
    have fin : ∀ (p : Option Addr) (l c : Nat) (q : NilCmp), nilOf (.sl el) x ob = q → a = .slice p l c → q.holds p.isNone →
        ∃ c, (nilOf (.sl el) x ob).holds c ∧ (∀ w, (binOp .eql t a (.slice none 0 0)).run P w = .ok (.bool c) w ∧ (binOp .neq t a (.slice none 0 0)).run P w = .ok (.bool (!c)) w) ∧ ∀ op (X Y : Operand) (w : World), (eqGuard op t X Y a (.slice none 0 0)).run P w = .ok () w := by
      rintro p l c q h1 rfl h2
      exact ⟨p.isNone, by rw [h1]; exact h2, fun w => ⟨run_eql_slice_nil' hu p l c w, run_neq_slice_nil w t el p l c hu⟩, hg _ _ (by simp) (by simp)⟩
    cases x <;> simp only [nilOf] at hno fin ⊢ <;> try exact absurd rfl hno
    · rename_i T xs
      cases hx with
      | islE T p c => exact fin p 0 c _ rfl rfl (by simp [NilCmp.holds])
      | isl T xs bb o cap cs hne hT hcap hA hc hr => exact fin _ _ _ _ rfl rfl (by simp [NilCmp.holds])
    · rename_i T xs
      cases hx with
      | nslE T => exact fin none 0 0 _ rfl rfl (by simp [NilCmp.holds])
      | nsl _ _ _ hne h =>
        cases h with
        | islE => exact absurd rfl hne
        | isl _ _ bb o cap cs hne2 hT hcap hA hc hr =>
          refine fin _ _ _ _ rfl rfl ?_
          cases xs with
          | nil => exact absurd rfl hne
          | cons => simp [NilCmp.holds]
    · cases hx; exact fin _ _ _ _ rfl rfl (by simp [NilCmp.holds])
    · rename_i j
      cases hx
      rename_i hj hv hg0
      cases ho : ob.getD j .dead <;> simp only [ho] at hno fin ⊢ <;> try exact absurd rfl hno
      rename_i T xs
      obtain ⟨g, hgj, hobj⟩ := inv.obj hj (by rw [ho]; simp)
      rw [ho] at hobj
      obtain ⟨p, cap, rfl, h1, h2, h3, h4⟩ := hg0 g hgj
      obtain ⟨g1, g2, g3, g4, g5, g6⟩ := hobj
      refine fin p _ _ _ rfl rfl fun hne => ?_
      have hpos : 0 < xs.length := by
        cases xs with
        | nil => simp at hne
        | cons => simp
      rw [h4 (by omega)]
      cases hbk : g.blk with
      | none => have := g5 hbk; omega
      | some b => simp [Gh.addr, hbk]
    · rename_i j off len
      cases hx
      rename_i hj hv hg0
      cases ho : ob.getD j .dead <;> simp only [ho] at hno fin ⊢ <;> try exact absurd rfl hno
      rename_i T xs
      obtain ⟨g, hgj, hobj⟩ := inv.obj hj (by rw [ho]; simp)
      rw [ho] at hobj
      obtain ⟨p, cap, rfl, h1, h2, h3, h4⟩ := hg0 g hgj
      obtain ⟨g1, g2, g3, g4, g5, g6⟩ := hobj
      refine fin p _ _ _ rfl rfl fun hne => ?_
      have hpos : len ≠ 0 := by
        intro e; subst e; simp at hne
      rw [h4 (by omega)]
      cases hbk : g.blk with
      | none => have := g5 hbk; omega
      | some b => simp [Gh.addr, hbk]
  · -- pointers
    have hu := tt_ptr tt hk
    have hu' : P.underlying t = some (.pointer (P.pointee t)) := by simp [Program.pointee, hu]
    cases hy
    have fin : ∀ (p : Option Addr), a = .pointer p → (nilOf (TT t).kind x ob).holds p.isNone →
        ∃ c, (nilOf (TT t).kind x ob).holds c ∧ (∀ w, (binOp .eql t a (.pointer none)).run P w = .ok (.bool c) w ∧ (binOp .neq t a (.pointer none)).run P w = .ok (.bool (!c)) w) ∧ ∀ op (X Y : Operand) (w : World), (eqGuard op t X Y a (.pointer none)).run P w = .ok () w := by
      rintro p rfl h2
      exact ⟨p.isNone, h2, fun w => ⟨run_eql_pointer_nil w t p hu', run_neq_pointer_nil w t p hu'⟩, hg _ _ (by simp) (by simp)⟩
    rw [hk] at fin
    cases x <;> simp only [nilOf] at hno fin ⊢ <;> try exact absurd rfl hno
    · cases hx with
      | iptr T v sub bb o cs hT hA hc hr => exact fin _ rfl (by simp [NilCmp.holds])
    · cases hx; exact fin _ rfl (by simp [NilCmp.holds])
    · cases hx
      rename_i hj hv hg0
      obtain ⟨b, o, rfl⟩ := hv
      exact fin _ rfl (by simp [NilCmp.holds])
  · -- maps
    have hu := tt_map tt hk
    cases hy
    have fin : ∀ (p : Option Nat), a = .map p → (nilOf (TT t).kind x ob).holds p.isNone →
        ∃ c, (nilOf (TT t).kind x ob).holds c ∧ (∀ w, (binOp .eql t a (.map none)).run P w = .ok (.bool c) w ∧ (binOp .neq t a (.map none)).run P w = .ok (.bool (!c)) w) ∧ ∀ op (X Y : Operand) (w : World), (eqGuard op t X Y a (.map none)).run P w = .ok () w := by
      rintro p rfl h2
      exact ⟨p.isNone, h2, fun w => ⟨run_eql_map_nil' hu p w, run_neq_map_nil w t _ _ p hu⟩, hg _ _ (by simp) (by simp)⟩
    rw [hk] at fin
    cases x <;> simp only [nilOf] at hno fin ⊢ <;> try exact absurd rfl hno
    · cases hx; exact fin _ rfl (by simp [NilCmp.holds])
    · rename_i j
      cases hx
      rename_i hj hv hg0
      cases ho : ob.getD j .dead <;> simp only [ho] at hno fin ⊢ <;> try exact absurd rfl hno
      obtain ⟨g, hgj, hobj⟩ := inv.obj hj (by rw [ho]; simp)
      obtain ⟨b, _, rfl⟩ := hg0 g hgj
      exact fin _ rfl (by simp [NilCmp.holds])
  · -- functions
    obtain ⟨d, hd, hf⟩ := tt_desc tt (t := t) (by rw [hk]; simp)
    rw [hk] at hf
    cases d <;> simp only [TK.fits] at hf
    cases hy
    cases x <;> simp only [nilOf] at hno ⊢ <;> try exact absurd rfl hno
    · cases hx
      exact ⟨true, rfl, fun w => run_func_nil hd _ true (.inl ⟨rfl, rfl⟩) w, hg _ _ (by simp) (by simp)⟩
    · cases hx
      exact ⟨false, rfl, fun w => run_func_nil hd _ false (.inr ⟨_, _, _, rfl, rfl⟩) w, hg _ _ (by simp) (by simp)⟩

theorem nilPK_nilK {TT : Nat → TI} {ρ : Type} {r : ρ} {t : Nat} {op : BinOp} {x y : AV} {ob : List AO} {k : AV → Option ρ} (e : nilPK TT t op x y k = some r) : nilK TT t op x y ob k = some r := by
  unfold nilPK at e
  split at e
  · cases e
  · rename_i hn
    unfold nilK
    generalize hq : (TT t).kind = q at e hn
    split at e <;> first | (cases e; done) | skip
    all_goals
      simp only [hn, if_true, nilOf, nilGo]
      exact e

theorem nilK_sound (tt : TTok P TT) (inv : Inv F w G ob) {t : Nat} {op : BinOp} {x y : AV} {a b : Value} {k : AV → Option ρ} (e : nilK TT t op x y ob k = some r) (hx : Rep (avoid F G) w ob.length G x a) (hy : Rep (avoid F G) w ob.length G y b) :
    ∃ v z, k v = some r ∧ Rep (avoid F G) w ob.length G v z ∧ ∀ (X Y : Operand) (w : World), (do eqGuard op t X Y a b; binOp op t a b : Sem Value).run P w = .ok z w := by
  have hno : ∀ neg, nilGo (nilOf (TT t).kind x ob) neg k = some r → nilOf (TT t).kind x ob ≠ .no := by
    intro neg h e
    rw [e] at h
    simp [nilGo] at h
  unfold nilK at e
  split at e
  · split at e
    · rename_i hn
      obtain ⟨c, h1, h2, h3⟩ := nil_sound tt inv hn (hno _ e) hx hy
      refine ⟨_, _, nilGo_sound h1 e, .bool _, fun X Y w => ?_⟩
      rw [Sem.run_bind, h3, Result.andThen_ok, (h2 w).1]; simp
    · cases e
  · split at e
    · rename_i hn
      obtain ⟨c, h1, h2, h3⟩ := nil_sound tt inv hn (hno _ e) hx hy
      refine ⟨_, _, nilGo_sound h1 e, .bool _, fun X Y w => ?_⟩
      rw [Sem.run_bind, h3, Result.andThen_ok, (h2 w).2]; simp
    · cases e
  · cases e

/-! ### Maps -/

/-- A key as a value. -/
def keyVal : (K : Ty) → K.D → Value
  | .int k, (n : Int) => .int k n
  | .str, (s : List UInt8) => .string ⟨s.toArray⟩
  | .bool, (b : Bool) => .bool b
  | _, _ => undef

theorem keyOk_rep {q : TK} {K : Ty} (h : keyOk q K = true) {d : K.D} {v : Value} (hv : Rep A w n G (toAV K d) v) : v = keyVal K d := by
  cases K <;> cases q <;> simp only [keyOk] at h <;> try cases h
  all_goals (simp only [toAV] at hv; cases hv; rfl)

theorem keyOk_rep' {q : TK} {K : Ty} (h : keyOk q K = true) (d : K.D) : Rep A w n G (toAV K d) (keyVal K d) := by
  cases K <;> cases q <;> simp only [keyOk] at h <;> try cases h
  all_goals (simp only [toAV, keyVal]; constructor)

theorem keyOk_isKey (tt : TTok P TT) {t : Nat} {K : Ty} (h : keyOk (TT t).kind K = true) : ∃ q, P.underlying t = some q ∧ ∀ d, MapKept.IsKey q (keyVal K d) := by
  cases hk : (TT t).kind <;> rw [hk] at h <;> cases K <;> simp only [keyOk] at h <;> try cases h
  · rename_i k k'
    have : k = k' := by simpa using h
    subst this
    exact ⟨_, tt_int tt hk, fun d => rfl⟩
  · obtain ⟨q, hq, hf⟩ := tt_desc tt (t := t) (by rw [hk]; simp)
    rw [hk] at hf
    cases q <;> simp only [TK.fits] at hf
    exact ⟨_, hq, fun d => trivial⟩
  · exact ⟨_, tt_str tt hk, fun d => trivial⟩

theorem keyVal_same {q : TK} {K : Ty} (h : keyOk q K = true) {u : TypeDesc} (hu : ∀ d, MapKept.IsKey u (keyVal K d)) (a b : K.D) : Instr.sameNow u (keyVal K a) (keyVal K b) = some (K.eqb a b) := by
  cases K <;> cases q <;> simp only [keyOk] at h <;> try cases h
  · have := hu a
    cases u <;> simp only [keyVal, MapKept.IsKey] at this
    simp [Instr.sameNow, keyVal, Ty.eqb]
  · have := hu a
    cases u <;> simp only [keyVal, MapKept.IsKey] at this
    simp [Instr.sameNow, keyVal, Ty.eqb]
  · have := hu a
    cases u <;> simp only [keyVal, MapKept.IsKey] at this
    simp only [Instr.sameNow, keyVal, Ty.eqb, Option.some.injEq]
    rw [Bool.eq_iff_iff, MapKept.bytes_beq, ByteArray.mk.injEq]
    have : ∀ (s t : List UInt8), s.toArray = t.toArray ↔ (s == t) = true := fun s t => by simp
    exact this a b

/-- Where a key stands. -/
theorem find_sound {q : TK} {K V : Ty} (hK : keyOk q K = true) {u : TypeDesc} (hu : ∀ d, MapKept.IsKey u (keyVal K d)) (x : K.D) : ∀ (es : List (K.D × V.D)) (ms : List MapEntry) (i : Nat), ms.length = es.length →
    (∀ j, j < es.length → (ms.getD j default).key = keyVal K (es.getD j (K.dflt, V.dflt)).1) →
    (mget es x = none ∧ Instr.findNow u (keyVal K x) ms i = some none ∧ (∀ y, mput es x y = es ++ [(x, y)]) ∧ ∀ e ∈ ms, e.key ≠ keyVal K x) ∨
    (∃ j, j < es.length ∧ mget es x = some (es.getD j (K.dflt, V.dflt)).2 ∧ Instr.findNow u (keyVal K x) ms i = some (some (i + j, (ms.getD j default).val)) ∧ (∀ y, mput es x y = es.set j (x, y)) ∧ (ms.getD j default).key = keyVal K x)
  | [], [], i, _, _ => .inl ⟨rfl, rfl, fun _ => rfl, fun e he => by cases he⟩
  | [], _ :: _, _, h, _ => by simp at h
  | _ :: _, [], _, h, _ => by simp at h
  | e :: es, m :: ms, i, hl, hk => by
    have h0 := hk 0 (by simp)
    simp only [List.getD_cons_zero] at h0
    have hs := keyVal_same hK hu x e.1
    by_cases hb : K.eqb x e.1 = true
    · right
      refine ⟨0, by simp, ?_, ?_, fun y => ?_, ?_⟩
      · simp [mget, List.find?, hb]
      · simp only [Instr.findNow, h0, hs, hb]; simp
      · simp [mput, hb]
      · simp only [List.getD_cons_zero]
        rw [h0]
        have := MapKept.sameNow_of_keys (hu x) (hu e.1)
        obtain ⟨r, h1, h2⟩ := this
        rw [hs] at h1
        simp only [Option.some.injEq] at h1
        exact (h2.1 (by rw [← h1]; exact hb)).symm
    · have hb' : K.eqb x e.1 = false := by simpa using hb
      have hne : m.key ≠ keyVal K x := by
        rw [h0]
        obtain ⟨r, h1, h2⟩ := MapKept.sameNow_of_keys (hu x) (hu e.1)
        rw [hs] at h1
        simp only [Option.some.injEq] at h1
        intro e2
        have := h2.2 e2.symm
        rw [← h1, hb'] at this; cases this
      have ih := find_sound hK hu x es ms (i + 1) (by simpa using hl) (fun j hj => by
        have := hk (j + 1) (by simpa using hj)
        simpa using this)
      rcases ih with ⟨g1, g2, g3, g4⟩ | ⟨j, g0, g1, g2, g3, g4⟩
      · left
        refine ⟨?_, ?_, fun y => ?_, fun e' he' => ?_⟩
        · simp only [mget, List.find?, hb'] at g1 ⊢; exact g1
        · simp only [Instr.findNow, h0, hs, hb']; exact g2
        · simp only [mput, hb', Bool.false_eq_true, if_false, g3 y]; rfl
        · rcases List.mem_cons.1 he' with rfl | h
          · exact hne
          · exact g4 e' h
      · right
        refine ⟨j + 1, by simpa using g0, ?_, ?_, fun y => ?_, ?_⟩
        · simp only [mget, List.find?, hb', List.getD_cons_succ] at g1 ⊢; exact g1
        · simp only [Instr.findNow, h0, hs, hb', List.getD_cons_succ]
          rw [g2]; simp [Nat.add_assoc, Nat.add_comm 1 j]
        · simp only [mput, hb', Bool.false_eq_true, if_false, g3 y]; rfl
        · simpa using g4

theorem zeroOk_val {V : Ty} {i : TI} (h : valOk V i = true) {z : Value} (hz : z.cells.toList = i.zero) (hag : vAgg z = i.kind.isAgg) :
    Rep A w n G (toAV V V.dflt) z := by
  simp only [valOk, Bool.and_eq_true, decide_eq_true_eq, beq_iff_eq, Bool.not_eq_true'] at h
  obtain ⟨⟨⟨hs, hg⟩, ho⟩, hzo⟩ := h
  obtain ⟨h1, h2⟩ := zero_rep (A := A) (w := w) (n := n) (G := G) V i.zero hzo
  cases hV : V.isAgg with
  | true =>
    rw [hg, hV] at hag
    obtain ⟨cs, rfl⟩ : ∃ cs, z = .agg cs := by cases z <;> simp [vAgg] at hag <;> exact ⟨_, rfl⟩
    simp only [Value.cells] at hz
    have hsz : cs.size = V.size := by rw [← h1, ← hz]; simp
    have hrep : ∀ j, j < (cellsAV V V.dflt).length → Rep A w n G ((cellsAV V V.dflt).getD j .dead) (cs.getD j undef) := fun j hj => by
      rw [cellsAV_length] at hj
      have := h2 j hj
      rw [← hz] at this
      have hj' : j < cs.size := by omega
      simpa [List.getD, Array.getD, hj'] using this
    have hl : (cellsAV V V.dflt).length = cs.size := by rw [cellsAV_length, hsz]
    cases V <;> simp [Ty.isAgg] at hV
    · exact .agg _ cs hl hrep
    · exact .agg _ cs hl hrep
    · exact .agg _ cs hl hrep
  | false =>
    rw [hg, hV] at hag
    have hc : z.cells = #[z] := by cases z <;> first | rfl | simp [vAgg] at hag
    have hsz : V.size = 1 := by cases V <;> simp [Ty.isAgg] at hV <;> rfl
    have := h2 0 (by omega)
    rw [← hz, hc] at this
    have e1 : (cellsAV V V.dflt).getD 0 .dead = toAV V V.dflt := by cases V <;> simp [Ty.isAgg] at hV <;> rfl
    rw [e1] at this
    simpa using this

/-- What a map has, in the world. -/
theorem map_sound (inv : Inv F w G ob) {x : AV} {m : MapAV} (h : mapOf x ob = some m) {v : Value} (hx : Rep (avoid F G) w ob.length G x v) :
    (m.es = [] ∧ v = .map none) ∨ ∃ b ms clock, v = .map (some b) ∧ w.heap[b]? = some (.map ms clock) ∧ MapKept.Stamped ms clock ∧ ms.size = m.es.length ∧
      (∀ i, i < m.es.length → Rep (avoid F G) w ob.length G (toAV m.K (m.es.getD i (m.K.dflt, m.V.dflt)).1) (ms.getD i default).key) ∧
      (∀ i, i < m.es.length → Rep (avoid F G) w ob.length G (toAV m.V (m.es.getD i (m.K.dflt, m.V.dflt)).2) (ms.getD i default).val) := by
  unfold mapOf at h
  split at h
  · simp only [Option.some.injEq] at h
    subst h
    cases hx with
    | imapE K V => exact .inl ⟨rfl, rfl⟩
    | imap K V es b ms clock hA hb hs hl hk hv => exact .inr ⟨b, ms, clock, rfl, hb, hs, hl, hk, hv⟩
  · split at h
    · rename_i K V es ho
      simp only [Option.some.injEq] at h
      subst h
      cases hx
      rename_i hj hv hg0
      obtain ⟨g, hgj, hobj⟩ := inv.obj hj (by rw [ho]; simp)
      rw [ho] at hobj
      obtain ⟨b, ms, clock, h1, h2, h3, h4, h5, h6⟩ := hobj
      obtain ⟨b', hb', rfl⟩ := hg0 g hgj
      rw [h1] at hb'; cases hb'
      exact .inr ⟨b, ms, clock, rfl, h2, h3, h4, h5, h6⟩
    · cases h
  · cases h

theorem lookupK_sound (tt : TTok P TT) (inv : Inv F w G ob) {t : Nat} {x i : AV} {ok : Bool} {a c : Value} {k : AV → Option ρ} (e : lookupK TT t x i ok ob k = some r)
    (hx : Rep (avoid F G) w ob.length G x a) (hi : Rep (avoid F G) w ob.length G i c) :
    ∃ v z, k v = some r ∧ Rep (avoid F G) w ob.length G v z ∧ (Instr.lookup t a c ok).run P w = .ok z w := by
  unfold lookupK at e
  split at e
  case h_2 => cases e
  rename_i kt vt hk
  split at e
  case h_2 => cases e
  rename_i m hm
  split at e
  case isFalse => cases e
  rename_i hkv
  obtain ⟨hK, hV⟩ := hkv
  simp only [Option.bind_eq_some_iff] at e
  obtain ⟨key, hkey, e⟩ := e
  have hu := tt_map tt hk
  obtain ⟨q, hq, hqk⟩ := keyOk_isKey tt hK
  have hc : c = keyVal m.K key := keyOk_rep hK (ofAV_toAV hkey hi)
  subst hc
  have hVo : (TT vt).kind ≠ .other := by
    simp only [valOk, Bool.and_eq_true, Bool.not_eq_true'] at hV
    exact isOther_false hV.1.2
  obtain ⟨z, hz, hzc, hza⟩ := tt_zero tt hVo w
  have hz0 : Rep (avoid F G) w ob.length G (toAV m.V m.V.dflt) z := zeroOk_val hV hzc hza
  -- what is found
  have fin : ∀ (v : Value) (there : Bool), Rep (avoid F G) w ob.length G (toAV m.V ((mget m.es key).getD m.V.dflt)) v → (mget m.es key).isSome = there →
      (Instr.lookup t a (keyVal m.K key) ok).run P w = .ok (if ok = true then .tuple #[v, .bool there] else v) w →
      ∃ v z, k v = some r ∧ Rep (avoid F G) w ob.length G v z ∧ (Instr.lookup t a (keyVal m.K key) ok).run P w = .ok z w := by
    intro v there h1 h2 h3
    cases ok with
    | true =>
      refine ⟨_, _, e, .tup _ #[v, .bool there] rfl fun i hi => ?_, by rw [h3]; rfl⟩
      match i, hi with
      | 0, _ => exact h1
      | 1, _ => rw [h2]; exact .bool _
    | false => exact ⟨_, _, e, h1, by rw [h3]; rfl⟩
  rcases map_sound inv hm hx with ⟨he, rfl⟩ | ⟨b, ms, clock, rfl, hb, hst, hl, hks, hvs⟩
  · have hg : mget m.es key = none := by rw [he]; rfl
    refine fin z false (by rw [hg]; exact hz0) (by rw [hg]; rfl) ?_
    simp [Instr.lookup, run_underlying hu, MapKept.run_checkKey hq (hqk key), MapKept.run_findKey (l := []) (a := none) hq rfl, hz, Result.andThen]
  · have hkeys : ∀ j, j < m.es.length → (ms.toList.getD j default).key = keyVal m.K (m.es.getD j (m.K.dflt, m.V.dflt)).1 := fun j hj => by
      have := keyOk_rep hK (hks j hj)
      have hj' : j < ms.size := by omega
      simpa [List.getD, Array.getD, hj'] using this
    rcases find_sound hK hqk key m.es ms.toList 0 (by simpa using hl) hkeys with ⟨g1, g2, _⟩ | ⟨j, g0, g1, g2, _⟩
    · refine fin z false (by rw [g1]; exact hz0) (by rw [g1]; rfl) ?_
      simp [Instr.lookup, run_underlying hu, MapKept.run_getObj_map hb, MapKept.run_checkKey hq (hqk key), MapKept.run_findKey hq g2, hz, Result.andThen]
    · have hj' : j < ms.size := by omega
      refine fin (ms.toList.getD j default).val true ?_ (by rw [g1]; rfl) ?_
      · rw [g1]
        have := hvs j g0
        simpa [List.getD, Array.getD, hj'] using this
      · simp [Instr.lookup, run_underlying hu, MapKept.run_getObj_map hb, MapKept.run_checkKey hq (hqk key), MapKept.run_findKey hq g2, Result.andThen]

theorem trans_setObj {n : Nat} {w : World} {G : Gs} {b : Nat} {o : Obj} (hb : G.has b) : Trans n w G { w with heap := w.heap.setIfInBounds b o } G where
  os := rfl
  tape := rfl
  output := rfl
  size := by simp
  frame c _ hc := by
    have : b ≠ c := fun e => hc (e ▸ hb)
    simp [this]
  own _ h := .inl h
  keep _ _ := .inr rfl

theorem mapUpdateK_sound (tt : TTok P TT) (inv : Inv F w G ob) {t : Nat} {x i v : AV} {a c u : Value} {k : List AO → Option ρ} (e : mapUpdateK TT t x i v ob k = some r)
    (hx : Rep (avoid F G) w ob.length G x a) (hi : Rep (avoid F G) w ob.length G i c) (hv : Rep (avoid F G) w ob.length G v u) :
    ∃ ob' w', k ob' = some r ∧ ob'.length = ob.length ∧ Inv F w' G ob' ∧ Trans ob.length w G w' G ∧ (Instr.mapUpdate t a c u).run P w = .ok () w' := by
  unfold mapUpdateK at e
  split at e
  case h_2 => cases e
  rename_i kt vt j hk
  split at e
  case h_2 => cases e
  rename_i K V es ho
  split at e
  case isFalse => cases e
  rename_i hkv
  obtain ⟨hK, hV⟩ := hkv
  simp only [Option.bind_eq_some_iff] at e
  obtain ⟨key, hkey, d, hd, e⟩ := e
  have hu := tt_map tt hk
  obtain ⟨q, hq, hqk⟩ := keyOk_isKey tt hK
  have hc : c = keyVal K key := keyOk_rep hK (ofAV_toAV hkey hi)
  subst hc
  have hval := ofAV_toAV hd hv
  have hkeyr := ofAV_toAV hkey hi
  cases hx
  rename_i hj hmv hg0
  obtain ⟨g, hgj, hobj⟩ := inv.obj hj (by rw [ho]; simp)
  rw [ho] at hobj
  obtain ⟨b, ms, clock, h1, hb, hst, hl, hks, hvs⟩ := hobj
  obtain ⟨b', hb', rfl⟩ := hg0 g hgj
  rw [h1] at hb'; cases hb'
  have hlt : b < w.heap.size := (Array.getElem?_eq_some_iff.1 hb).1
  have hkeys : ∀ j, j < es.length → (ms.toList.getD j default).key = keyVal K (es.getD j (K.dflt, V.dflt)).1 := fun j hj => by
    have := keyOk_rep hK (hks j hj)
    have hj' : j < ms.size := by omega
    simpa [List.getD, Array.getD, hj'] using this
  have hown : G.has b := ⟨j, g, hgj, h1⟩
  -- the map behind it
  have fin : ∀ (ms' : Array MapEntry) (clock' : Nat), (Instr.mapUpdate t (.map (some b)) (keyVal K key) u).run P w = .ok () { w with heap := w.heap.setIfInBounds b (.map ms' clock') } →
      MapKept.Stamped ms' clock' → ms'.size = (mput es key d).length →
      (∀ i, i < (mput es key d).length → Rep (avoid F G) w ob.length G (toAV K ((mput es key d).getD i (K.dflt, V.dflt)).1) (ms'.getD i default).key) →
      (∀ i, i < (mput es key d).length → Rep (avoid F G) w ob.length G (toAV V ((mput es key d).getD i (K.dflt, V.dflt)).2) (ms'.getD i default).val) →
      ∃ ob' w', k ob' = some r ∧ ob'.length = ob.length ∧ Inv F w' G ob' ∧ Trans ob.length w G w' G ∧ (Instr.mapUpdate t (.map (some b)) (keyVal K key) u).run P w = .ok () w' := by
    intro ms' clock' hrun hst' hl' hk' hv'
    have ht : Trans ob.length w G { w with heap := w.heap.setIfInBounds b (.map ms' clock') } G := trans_setObj hown
    have hs := ht.stays (F := F) (Nat.le_refl _)
    refine ⟨_, _, e, by simp, inv.setObj hgj h1 ht (fun c hc => by
      have : b ≠ c := fun e => hc e.symm
      simp [this]) ?_, ht, hrun⟩
    exact ⟨b, ms', clock', h1, by simp [hlt], hst', hl', fun i hi => (hk' i hi).stays hs, fun i hi => (hv' i hi).stays hs⟩
  rcases find_sound hK hqk key es ms.toList 0 (by simpa using hl) hkeys with ⟨g1, g2, g3, g4⟩ | ⟨p, g0, g1, g2, g3, g4⟩
  · refine fin (ms.push { key := keyVal K key, val := u, born := clock }) (clock + 1) ?_ (MapKept.stamped_push hst g4) ?_ (fun i hi => ?_) (fun i hi => ?_)
    · simp [Instr.mapUpdate, run_underlying hu, MapKept.run_getObj_map hb, MapKept.run_checkKey hq (hqk key), MapKept.run_findKey hq g2, MapKept.run_setObj_map _ hb, Result.andThen]
    · rw [g3]; simp [hl]
    · rw [g3] at hi ⊢
      by_cases hlt : i < es.length
      · have e1 : (es ++ [(key, d)]).getD i (K.dflt, V.dflt) = es.getD i (K.dflt, V.dflt) := by simp [List.getD, List.getElem?_append, hlt]
        have e2 : (ms.push { key := keyVal K key, val := u, born := clock }).getD i default = ms.getD i default := by
          have h1 : i < ms.size := by omega
          have h2 : i < ms.size + 1 := by omega
          simp [Array.getD, h2, Array.getElem_push, h1]
        rw [e1, e2]; exact hks i hlt
      · have hi' : i = es.length := by simp at hi; omega
        subst hi'
        have e1 : (es ++ [(key, d)]).getD es.length (K.dflt, V.dflt) = (key, d) := by simp [List.getD]
        have e2 : (ms.push { key := keyVal K key, val := u, born := clock }).getD es.length default = { key := keyVal K key, val := u, born := clock } := by
          rw [← hl]; simp [Array.getD]
        rw [e1, e2]; exact hkeyr
    · rw [g3] at hi ⊢
      by_cases hlt : i < es.length
      · have e1 : (es ++ [(key, d)]).getD i (K.dflt, V.dflt) = es.getD i (K.dflt, V.dflt) := by simp [List.getD, List.getElem?_append, hlt]
        have e2 : (ms.push { key := keyVal K key, val := u, born := clock }).getD i default = ms.getD i default := by
          have h1 : i < ms.size := by omega
          have h2 : i < ms.size + 1 := by omega
          simp [Array.getD, h2, Array.getElem_push, h1]
        rw [e1, e2]; exact hvs i hlt
      · have hi' : i = es.length := by simp at hi; omega
        subst hi'
        have e1 : (es ++ [(key, d)]).getD es.length (K.dflt, V.dflt) = (key, d) := by simp [List.getD]
        have e2 : (ms.push { key := keyVal K key, val := u, born := clock }).getD es.length default = { key := keyVal K key, val := u, born := clock } := by
          rw [← hl]; simp [Array.getD]
        rw [e1, e2]; exact hval
  · have hp : p < ms.size := by omega
    have hmp : ms[p]? = some ms[p] := by simp [hp]
    have hkp : ms[p].key = keyVal K key := by
      have := g4
      simpa [List.getD, hp] using this
    have hget : ∀ i, i < ms.size → (ms.modify p fun e' => { e' with key := keyVal K key, val := u }).getD i default = if p = i then { ms[p] with key := keyVal K key, val := u } else ms.getD i default := by
      intro i hi
      by_cases hpi : p = i
      · subst hpi
        simp [Array.getD, hi, Array.getElem_modify]
      · simp [Array.getD, hi, Array.getElem_modify, hpi]
    refine fin (ms.modify p fun e' => { e' with key := keyVal K key, val := u }) clock ?_ (MapKept.stamped_modify hst _ _ (fun _ _ => rfl) (fun e' _ he' => by
      rw [hmp] at he'; cases he'; exact hkp.symm)) ?_ (fun i hi => ?_) (fun i hi => ?_)
    · rw [Nat.zero_add] at g2
      simp [Instr.mapUpdate, run_underlying hu, MapKept.run_getObj_map hb, MapKept.run_checkKey hq (hqk key), MapKept.run_findKey hq g2, hp, hkp, MapKept.run_keyThatStays (hqk key), MapKept.run_setObj_map _ hb, Result.andThen]
    · rw [g3]; simp [hl]
    · rw [g3] at hi ⊢
      simp only [List.length_set] at hi
      rw [hget i (by omega)]
      by_cases hpi : p = i
      · subst hpi
        have e1 : (es.set p (key, d)).getD p (K.dflt, V.dflt) = (key, d) := by simp [List.getD, hi]
        rw [e1, if_pos rfl]; exact hkeyr
      · have e1 : (es.set p (key, d)).getD i (K.dflt, V.dflt) = es.getD i (K.dflt, V.dflt) := by simp [List.getD, hpi]
        rw [e1, if_neg hpi]; exact hks i hi
    · rw [g3] at hi ⊢
      simp only [List.length_set] at hi
      rw [hget i (by omega)]
      by_cases hpi : p = i
      · subst hpi
        have e1 : (es.set p (key, d)).getD p (K.dflt, V.dflt) = (key, d) := by simp [List.getD, hi]
        rw [e1, if_pos rfl]; exact hval
      · have e1 : (es.set p (key, d)).getD i (K.dflt, V.dflt) = es.getD i (K.dflt, V.dflt) := by simp [List.getD, hpi]
        rw [e1, if_neg hpi]; exact hvs i hi

theorem alloc_heap (w : World) (o : Obj) : (w.alloc o).heap = w.heap.push o := rfl

theorem makeMap_sound (inv : Inv F w G ob) (K V : Ty) {t : Nat} :
    ∃ z w' G', Rep (avoid F G') w' (ob ++ [AO.map K V []]).length G' (.map ob.length) z ∧ Inv F w' G' (ob ++ [.map K V []]) ∧ Trans ob.length w G w' G' ∧ (Instr.makeMap t none).run P w = .ok z w' := by
  let g : Gh := ⟨some w.heap.size, 0, 1, 1, 1⟩
  have hsz : (w.alloc (.map #[] 0)).heap.size = w.heap.size + 1 := by rw [alloc_heap, Array.size_push]
  have hp := inv.push (w' := w.alloc (.map #[] 0)) none g (.map K V []) rfl rfl rfl (by omega) (fun b hb _ => heap_alloc_old w _ b hb)
    (fun b hb => by
      have : w.heap.size = b := by simpa [g] using hb
      subst this
      exact ⟨by omega, .inl (Nat.le_refl _)⟩)
    (fun st => ⟨w.heap.size, #[], 0, rfl, by rw [alloc_heap, Array.getElem?_push_size], MapKept.stamped_empty 0, rfl, fun i hi => absurd hi (Nat.not_lt_zero _), fun i hi => absurd hi (Nat.not_lt_zero _)⟩)
  refine ⟨.map (some w.heap.size), _, _, ?_, hp.1, hp.2.1, rfl⟩
  refine .map _ _ (by simp) ⟨_, rfl⟩ fun g' hg' => ?_
  have e1 : g = g' := by simpa [Gs.push] using hg'
  subst e1
  exact ⟨_, rfl, rfl⟩

/-! ### Rows of cells are written -/

theorem Inv.put (inv : Inv F w G ob) {j : Nat} {g : Gh} (hgj : G j = some g) {T : Ty} {xs : List T.D} (ho : ob.getD j .dead = .arr T xs) {b : Nat} (hb : g.blk = some b) {off : Nat} {ys : List T.D} {news : List Value}
    (hl : news.length = ys.length * T.size) (hy : Cells (avoid F G) w ob.length G T ys (fun i => news.getD i undef)) (hle : off + ys.length ≤ xs.length) :
    Inv F (w.setCells b (g.base + off * T.size) news) G (ob.set j (.arr T (xs.take off ++ ys ++ xs.drop (off + ys.length)))) ∧ Trans ob.length w G (w.setCells b (g.base + off * T.size) news) G ∧
      (storeCells ⟨b, g.base + off * T.size, none⟩ news).run P w = .ok () (w.setCells b (g.base + off * T.size) news) := by
  have hj := inv.dom j g hgj
  have hobj := inv.live j hj g hgj
  rw [ho] at hobj
  obtain ⟨h1, h2, h3, h4, h5, h6⟩ := hobj
  obtain ⟨C, hrow, hrep⟩ := h6 b hb
  have hcap : (off + ys.length) * T.size ≤ g.cap * g.size := by rw [h1]; exact Nat.mul_le_mul_right _ (by omega)
  rw [Nat.add_mul] at hcap
  obtain ⟨C2, hset, hC1, hC2⟩ := hrow.set' (o := g.base + off * T.size) (vs := news) (by omega)
  have ht : Trans ob.length w G (w.setCells b (g.base + off * T.size) news) G := trans_setCells ⟨j, g, hgj, hb⟩
  have hst := ht.stays (F := F) (Nat.le_refl _)
  have hlen : (xs.take off ++ ys ++ xs.drop (off + ys.length)).length = xs.length := by simp; omega
  refine ⟨inv.setObj hgj hb ht (fun c hc => heap_setCells b _ _ w c hc) ?_, ht, ?_⟩
  · refine ⟨h1, h2, by rw [hlen]; exact h3, by rw [hlen]; exact h4, h5, fun b' hb' => ?_⟩
    rw [hb] at hb'; cases hb'
    refine ⟨C2, hset, fun i m hi hm => ?_⟩
    rw [hlen] at hi
    by_cases hin : off ≤ i ∧ i < off + ys.length
    · have e1 : (xs.take off ++ ys ++ xs.drop (off + ys.length)).getD i T.dflt = ys.getD (i - off) T.dflt := by
        have hto : (xs.take off).length = off := by simp; omega
        simp only [List.getD]
        rw [List.getElem?_append_left (by simp; omega), List.getElem?_append_right (by omega), hto]
      have hm2 : (i - off) * T.size + m < news.length := by rw [hl]; exact mul_lt_cap (by omega) hm
      have e2 : g.base + i * T.size + m = g.base + off * T.size + ((i - off) * T.size + m) := by
        have : i * T.size = off * T.size + (i - off) * T.size := by rw [← Nat.add_mul]; rw [show off + (i - off) = i by omega]
        omega
      rw [e1, e2, hC1 _ hm2]
      exact (hy (i - off) m (by omega) hm).stays hst
    · have e1 : (xs.take off ++ ys ++ xs.drop (off + ys.length)).getD i T.dflt = xs.getD i T.dflt := by
        have hto : (xs.take off).length = off := by simp; omega
        simp only [List.getD]
        by_cases hlt : i < off
        · rw [List.append_assoc, List.getElem?_append_left (by omega), List.getElem?_take, if_pos hlt]
        · rw [List.getElem?_append_right (by simp; omega), List.getElem?_drop]
          congr 2
          simp; omega
      have hout : ¬ (g.base + off * T.size ≤ g.base + i * T.size + m ∧ g.base + i * T.size + m < g.base + off * T.size + news.length) := by
        rw [hl]
        rcases Nat.lt_or_ge i off with hlt | hge
        · have : (i + 1) * T.size ≤ off * T.size := Nat.mul_le_mul_right _ hlt
          rw [Nat.succ_mul] at this
          omega
        · have : (off + ys.length) * T.size ≤ i * T.size := Nat.mul_le_mul_right _ (by omega)
          rw [Nat.add_mul] at this
          omega
      rw [e1, hC2 _ hout]
      exact (hrep i m hi hm).stays hst
  · have hs := run_storeCells_cells (P := P) b (g.base + off * T.size) news 0 w (fun m hm => by rw [Nat.add_zero, hrow.cells _ (by omega)]; rfl)
      (fun m hm => by rw [Nat.add_zero]; exact hrow.free _ (by omega)) (fun v hv => by
        obtain ⟨m, hm, rfl⟩ := List.getElem_of_mem hv
        have := cells_one hy (m := m) (by omega)
        simpa [List.getD, hm] using this)
    simpa using hs

theorem part_of (inv : Inv F w G ob) {x : AV} {j off len : Nat} {T : Ty} {xs : List T.D} (ho : ob.getD j .dead = .arr T xs) (hx' : (x = .slw j ∧ off = 0 ∧ len = xs.length) ∨ x = .sl j off len) {v : Value}
    (hx : Rep (avoid F G) w ob.length G x v) :
    ∃ g a cap, G j = some g ∧ j < ob.length ∧ v = .slice a len cap ∧ off + len ≤ xs.length ∧ (len ≠ 0 → ∃ b, g.blk = some b ∧ a = some ⟨b, g.base + off * T.size, none⟩) := by
  rcases hx' with ⟨rfl, rfl, rfl⟩ | rfl
  · cases hx
    rename_i hj hv hg0
    obtain ⟨g, hg, hobj⟩ := inv.obj hj (by rw [ho]; simp)
    rw [ho] at hobj
    obtain ⟨a, cap, rfl, h1, h2, h3, h4⟩ := hg0 g hg
    obtain ⟨g1, g2, g3, g4, g5, g6⟩ := hobj
    refine ⟨g, a, cap, hg, hj, by rw [g3], by omega, fun hne => ?_⟩
    have ha := h4 (by omega)
    cases hbk : g.blk with
    | none => have := g5 hbk; omega
    | some b =>
      simp only [Gh.addr, hbk, Option.map_some, Nat.zero_mul, Nat.add_zero] at ha
      exact ⟨b, rfl, by rw [ha]; simp⟩
  · cases hx
    rename_i hj hv hg0
    obtain ⟨g, hg, hobj⟩ := inv.obj hj (by rw [ho]; simp)
    rw [ho] at hobj
    obtain ⟨a, cap, rfl, h1, h2, h3, h4⟩ := hg0 g hg
    obtain ⟨g1, g2, g3, g4, g5, g6⟩ := hobj
    refine ⟨g, a, cap, hg, hj, rfl, by omega, fun hne => ?_⟩
    have ha := h4 (by omega)
    cases hbk : g.blk with
    | none => have := g5 hbk; omega
    | some b =>
      simp only [Gh.addr, hbk, Option.map_some] at ha
      exact ⟨b, rfl, by rw [ha, g1]⟩

theorem set_same {l : List AO} {j : Nat} {o : AO} (h : l.getD j .dead = o) (hj : j < l.length) : l.set j o = l := by
  apply List.ext_getElem?
  intro i
  by_cases e : j = i
  · subst e
    simp [List.getD, hj] at h
    simp [hj, h]
  · simp [e]

theorem zeroCells_get (z : Array Value) (m i j size : Nat) (hz : z.size = size) (hi : i < m) (hj : j < size) : (Builtin.zeroCells z m).toList.getD (i * size + j) undef = z.getD j undef := by
  have hlt := mul_lt_cap hi hj
  have hmod : (i * size + j) % size = j := by rw [Nat.mul_comm, Nat.mul_add_mod]; exact Nat.mod_eq_of_lt hj
  have hj' : j < z.size := by omega
  subst hz
  simp [Builtin.zeroCells, List.getD, Array.getD, hlt, hmod, hj']

theorem zeros_cells {T : Ty} {z : Value} {zs : List Value} (hz : z.cells.toList = zs) (hok : zeroOk T zs = true) (m : Nat) :
    (Builtin.zeroCells z.cells m).toList.length = (List.replicate m T.dflt).length * T.size ∧ Cells A w n G T (List.replicate m T.dflt) (fun i => (Builtin.zeroCells z.cells m).toList.getD i undef) := by
  obtain ⟨h1, h2⟩ := zero_rep (A := A) (w := w) (n := n) (G := G) T zs hok
  have hs : z.cells.size = T.size := by rw [← h1, ← hz]; simp
  refine ⟨by simp [Builtin.zeroCells, hs], fun i j hi hj => ?_⟩
  have hi' : i < m := by simpa using hi
  have e1 : (List.replicate m T.dflt).getD i T.dflt = T.dflt := by simp [List.getD, hi']
  simp only [e1]
  rw [zeroCells_get z.cells m i j T.size hs hi' hj]
  have := h2 j hj
  rw [← hz] at this
  have hj' : j < z.cells.size := by omega
  simpa [List.getD, Array.getD, hj'] using this

theorem clearK_sound (tt : TTok P TT) (inv : Inv F w G ob) {t : Nat} {x : AV} {a : Value} {k : AV → List AO → Option ρ} (e : clearK TT t x ob k = some r) (hx : Rep (avoid F G) w ob.length G x a) (ty : TypeId) :
    ∃ v z ob' w' G', k v ob' = some r ∧ Rep (avoid F G') w' ob'.length G' v z ∧ Inv F w' G' ob' ∧ Trans ob.length w G w' G' ∧ ob.length ≤ ob'.length ∧ (Builtin.clear_ #[t] ty #[a]).run P w = .ok z w' := by
  have htup : ∀ {A : Nat → Prop} {w : World} {n : Nat} {G : Gs}, Rep A w n G (.tup []) (.tuple #[]) := .tup [] #[] rfl fun i hi => by cases hi
  -- a part of a row
  have part : ∀ (el j off len : Nat) (T : Ty) (xs : List T.D), (TT t).kind = .sl el → ob.getD j .dead = .arr T xs → ((x = .slw j ∧ off = 0 ∧ len = xs.length) ∨ x = .sl j off len) →
      (TT el).size = T.size → (TT el).kind.isOther = false → zeroOk T (TT el).zero = true → k (.tup []) (ob.set j (.arr T (xs.take off ++ List.replicate len T.dflt ++ xs.drop (off + len)))) = some r →
      ∃ v z ob' w' G', k v ob' = some r ∧ Rep (avoid F G') w' ob'.length G' v z ∧ Inv F w' G' ob' ∧ Trans ob.length w G w' G' ∧ ob.length ≤ ob'.length ∧ (Builtin.clear_ #[t] ty #[a]).run P w = .ok z w' := by
    intro el j off len T xs hk ho hx' hsz hko hz e
    have hu := tt_sl tt hk
    obtain ⟨g, p, cap, hgj, hj, rfl, hle, hblk⟩ := part_of inv ho hx' hx
    by_cases h0 : len = 0
    · subst h0
      have hs : ob.set j (.arr T (xs.take off ++ List.replicate 0 T.dflt ++ xs.drop (off + 0))) = ob := set_same (by rw [ho]; simp) hj
      rw [hs] at e
      refine ⟨_, _, ob, w, G, e, htup, inv, Trans.refl _ _ _, Nat.le_refl _, ?_⟩
      cases p <;> simp [Builtin.clear_, run_underlying hu]
    · obtain ⟨b, hb, rfl⟩ := hblk h0
      obtain ⟨z, hz1, hz2, _⟩ := tt_zero tt (isOther_false hko) w
      obtain ⟨hl, hc⟩ := zeros_cells (A := avoid F G) (w := w) (n := ob.length) (G := G) hz2 hz len
      have hp := inv.put hgj ho hb (off := off) hl hc (by simpa using hle) (P := P)
      simp only [List.length_replicate] at hp
      refine ⟨_, _, _, _, G, e, htup, hp.1, hp.2.1, by simp, ?_⟩
      simp [Builtin.clear_, run_underlying hu, hz1, h0, hp.2.2, Result.andThen]
  unfold clearK at e
  split at e
  · rename_i kt vt j hk
    split at e
    · rename_i K V es ho
      have hu := tt_map tt hk
      cases hx
      rename_i hj hv hg0
      obtain ⟨g, hgj, hobj⟩ := inv.obj hj (by rw [ho]; simp)
      rw [ho] at hobj
      obtain ⟨b, ms, clock, h1, hb, hst, hl, hks, hvs⟩ := hobj
      obtain ⟨b', hb', rfl⟩ := hg0 g hgj
      rw [h1] at hb'; cases hb'
      have hlt : b < w.heap.size := (Array.getElem?_eq_some_iff.1 hb).1
      have ht : Trans ob.length w G { w with heap := w.heap.setIfInBounds b (.map #[] clock) } G := trans_setObj ⟨j, g, hgj, h1⟩
      refine ⟨_, _, _, _, G, e, htup, inv.setObj hgj h1 ht (fun c hc => by
        have : b ≠ c := fun e => hc e.symm
        simp [this]) ?_, ht, by simp, ?_⟩
      · exact ⟨b, #[], clock, h1, by simp [hlt], MapKept.stamped_empty clock, rfl, fun i hi => absurd hi (Nat.not_lt_zero _), fun i hi => absurd hi (Nat.not_lt_zero _)⟩
      · simp [Builtin.clear_, run_underlying hu, MapKept.run_getObj_map hb, MapKept.run_setObj_map _ hb, Result.andThen]
    · cases e
  · rename_i el j hk
    split at e
    · rename_i T xs ho
      split at e
      · rename_i hc
        refine part el j 0 xs.length T xs hk ho (.inl ⟨rfl, rfl, rfl⟩) hc.1 hc.2.1 hc.2.2 ?_
        simpa using e
      · cases e
    · cases e
  · rename_i el j off len hk
    split at e
    · rename_i T xs ho
      split at e
      · rename_i hc
        exact part el j off len T xs hk ho (.inr rfl) hc.1 hc.2.1 hc.2.2 e
      · cases e
    · cases e
  · cases e

theorem copyK_sound (tt : TTok P TT) (inv : Inv F w G ob) {T : Ty} {t : Nat} {x y : AV} {a b : Value} {k : AV → List AO → Option ρ} (e : copyK TT T t x y ob k = some r)
    (hx : Rep (avoid F G) w ob.length G x a) (hy : Rep (avoid F G) w ob.length G y b) (u ty : TypeId) :
    ∃ v z ob' w' G', k v ob' = some r ∧ Rep (avoid F G') w' ob'.length G' v z ∧ Inv F w' G' ob' ∧ Trans ob.length w G w' G' ∧ ob.length ≤ ob'.length ∧ (Builtin.copy_ #[t, u] ty #[a, b]).run P w = .ok z w' := by
  unfold copyK at e
  split at e
  case h_2 => cases e
  rename_i el hk
  split at e
  case isFalse => cases e
  rename_i hc
  obtain ⟨hsz, hT, hko⟩ := hc
  have hu := tt_sl tt hk
  have hsz' := tt_size tt (isOther_false hko) w
  rw [hsz] at hsz'
  have part : ∀ (j off len : Nat) (xs ys : List T.D), listOf T (.slw j) ob = some xs → listOf T y ob = some ys → ((x = .slw j ∧ off = 0 ∧ len = xs.length) ∨ x = .sl j off len) →
      k (.int .i64 (min len ys.length : Nat)) (ob.set j (.arr T (copyRow xs ys off len))) = some r →
      ∃ v z ob' w' G', k v ob' = some r ∧ Rep (avoid F G') w' ob'.length G' v z ∧ Inv F w' G' ob' ∧ Trans ob.length w G w' G' ∧ ob.length ≤ ob'.length ∧ (Builtin.copy_ #[t, u] ty #[a, b]).run P w = .ok z w' := by
    intro j off len xs ys hxs hys hx' e
    have ho : ob.getD j .dead = .arr T xs := by
      simp only [listOf] at hxs
      split at hxs
      · rename_i T' zs ho
        split at hxs
        · rename_i hT'
          subst hT'
          simp only [Option.some.injEq] at hxs
          have : zs = xs := hxs
          rw [ho, this]
        · cases hxs
      · cases hxs
    obtain ⟨g, p, cap, hgj, hj, rfl, hle, hblk⟩ := part_of inv ho hx' hx
    obtain ⟨news, hsrc⟩ := listOf_sound (P := P) inv hys hy
    have hfirst := hsrc.firstN w rfl (min len ys.length) (Nat.min_le_right _ _)
    have hmin : Nat.min ys.length len = min len ys.length := Nat.min_comm _ _
    by_cases h0 : len = 0
    · subst h0
      have hs : ob.set j (.arr T (copyRow xs ys off 0)) = ob := set_same (by rw [ho]; simp [copyRow]) hj
      rw [hs] at e
      refine ⟨_, _, ob, w, G, e, .int _ _, inv, Trans.refl _ _ _, Nat.le_refl _, ?_⟩
      simp only [Nat.zero_min, Nat.zero_mul, List.take_zero] at hfirst
      cases p <;> simp [Builtin.copy_, run_underlying hu, hsrc.lenOf w, hsz', hfirst, goInt, storeCells, Result.andThen]
    · obtain ⟨bk, hb, rfl⟩ := hblk h0
      have hl : (news.take (min len ys.length * T.size)).length = (ys.take (min len ys.length)).length * T.size := by
        rw [List.length_take, List.length_take, hsrc.len, Nat.min_eq_left (Nat.min_le_right _ _), Nat.min_eq_left (Nat.mul_le_mul_right _ (Nat.min_le_right _ _))]
      have hcells : Cells (avoid F G) w ob.length G T (ys.take (min len ys.length)) (fun i => (news.take (min len ys.length * T.size)).getD i undef) := by
        intro i m hi hm
        have hi2 : i < min len ys.length := by
          rw [List.length_take] at hi; omega
        have hlt := mul_lt_cap hi2 hm
        have e1 : (ys.take (min len ys.length)).getD i T.dflt = ys.getD i T.dflt := by simp only [List.getD, List.getElem?_take]; rw [if_pos hi2]
        have e2 : (news.take (min len ys.length * T.size)).getD (i * T.size + m) undef = news.getD (i * T.size + m) undef := by simp only [List.getD, List.getElem?_take]; rw [if_pos hlt]
        simp only [e1, e2]
        exact hsrc.cells i m (by omega) hm
      have hp := inv.put hgj ho hb (off := off) hl hcells (by rw [List.length_take]; omega) (P := P)
      have hrow : xs.take off ++ ys.take (min len ys.length) ++ xs.drop (off + (ys.take (min len ys.length)).length) = copyRow xs ys off len := by
        have h1 : (ys.take (min len ys.length)).length = min len ys.length := by rw [List.length_take]; omega
        have h2 : ys.take (min len ys.length) = ys.take len := by
          apply List.ext_getElem?
          intro i
          simp only [List.getElem?_take]
          by_cases h3 : i < len
          · by_cases h4 : i < ys.length
            · rw [if_pos (by omega), if_pos h3]
            · rw [if_neg (by omega), if_pos h3, List.getElem?_eq_none (by omega)]
          · rw [if_neg (by omega), if_neg h3]
        rw [h1, h2]; rfl
      rw [hrow] at hp
      refine ⟨_, _, _, _, G, e, .int _ _, hp.1, hp.2.1, by simp, ?_⟩
      simp [Builtin.copy_, run_underlying hu, hsrc.lenOf w, hsz', hmin, hfirst, goInt, hp.2.2, Result.andThen]
  split at e
  · rename_i j
    split at e
    · rename_i xs ys hxs hys
      exact part j 0 xs.length xs ys hxs hys (.inl ⟨rfl, rfl, rfl⟩) e
    · cases e
  · rename_i j off len
    split at e
    · rename_i xs ys hxs hys
      exact part j off len xs ys hxs hys (.inr rfl) e
    · cases e
  · cases e

theorem appendZK_sound (tt : TTok P TT) (inv : Inv F w G ob) {T : Ty} {t u : Nat} {x y : AV} {a b : Value} {k : AV → List AO → Option ρ} (e : appendZK TT T t u x y ob k = some r)
    (hx : Rep (avoid F G) w ob.length G x a) (hy : Rep (avoid F G) w ob.length G y b) (ty : TypeId) :
    ∃ v z ob' w' G', k v ob' = some r ∧ Rep (avoid F G') w' ob'.length G' v z ∧ Inv F w' G' ob' ∧ Trans ob.length w G w' G' ∧ ob.length ≤ ob'.length ∧ (Builtin.append_ #[t, u] ty #[a, b]).run P w = .ok z w' := by
  unfold appendZK at e
  split at e
  case h_2 => cases e
  rename_i el ik m hk hk2
  cases hx; cases hy
  split at e
  case isFalse => cases e
  rename_i hc
  obtain ⟨hsz, hT, hko, hz⟩ := hc
  split at e
  case isFalse => cases e
  rename_i hr
  obtain ⟨h0, h63, hb0, hbytes⟩ := hr
  have hko' := isOther_false hko
  obtain ⟨i, z, hi, hs, hb, hzz, hzc, _⟩ := ((tt el).resolve_left hko').2
  have ht := tt_sl tt hk
  have hu := tt_int tt hk2
  have his : i.size = T.size := hs.trans hsz
  have hw : IntKind.i64.wrap m = m := by
    simp only [IntKind.wrap, IntKind.signed, IntKind.bits]
    simp
    omega
  obtain ⟨l, rfl⟩ : ∃ l : Nat, m = (l : Int) := ⟨m.toNat, by omega⟩
  simp only [Int.toNat_natCast] at e hbytes
  have hneg : ¬ ((l : Int) < 0) := by omega
  have hbig : ¬ ((2 : Int) ^ 48 < (l : Int) * (i.bytes : Int)) := by
    rw [hb]
    have : ((l * (TT el).bytes : Nat) : Int) ≤ (140737488355328 : Nat) := Int.ofNat_le.2 hbytes
    rw [Int.natCast_mul] at this
    have h2 : (2 : Int) ^ 48 = (281474976710656 : Nat) := rfl
    rw [h2]
    omega
  by_cases hl0 : l = 0
  · subst hl0
    let g : Gh := ⟨none, 0, T.size, 0, 0⟩
    have hp := inv.push (w' := w) none g (.arr T (List.replicate 0 T.dflt)) rfl rfl rfl (Nat.le_refl _) (fun _ _ _ => rfl) (fun b hb => by simp [g] at hb)
      (fun st => ⟨rfl, hT, rfl, Nat.le_refl _, fun _ => rfl, fun b hb => by simp [g] at hb⟩)
    refine ⟨_, .slice none 0 0, _, _, _, e, ?_, hp.1, hp.2.1, by simp, ?_⟩
    · refine .slw _ _ (by simp) ⟨_, _, _, rfl⟩ fun g' hg' => ?_
      have e1 : g = g' := by simpa [Gs.push] using hg'
      subst e1
      exact ⟨none, 0, rfl, by simp [g], by simp [g], by simp [g], fun h => absurd rfl h⟩
    · have hw0 : IntKind.i64.wrap 0 = 0 := hw
      simp [Builtin.append_, run_underlying ht, run_underlying hu, sizeOf, typeInfo, hi, asInt, asIntOf, hw0]
  · have hpos : ¬ (l ≤ 0) := by omega
    have hrun : (Builtin.append_ #[t, u] ty #[.slice none 0 0, .int .i64 (l : Int)]).run P w =
        .ok (.slice (some ⟨w.heap.size, 0, none⟩) l (grownCap w l 0 el)) (w.drew.alloc (.cells (Builtin.zeroCells z.cells l ++ Builtin.zeroCells z.cells (grownCap w l 0 el - l)) el)) := by
      have hT0 : ¬ (l * i.size = 0) := by
        rw [his]
        intro h
        rcases Nat.mul_eq_zero.1 h with h | h <;> omega
      have hn63 : ¬ (9223372036854775807 < (l : Int)) := by omega
      have hb1 : i.bytes ≠ 0 := by omega
      have hcap : Builtin.nextslicecap l 0 = l := by simp [Builtin.nextslicecap]; omega
      have hfit : ¬ (2 ^ 48 < Builtin.nextslicecap l 0 * i.bytes) := by rw [hcap, hb]; omega
      have hfit' : ¬ (281474976710656 < Builtin.nextslicecap l 0 * i.bytes) := by rw [hcap, hb]; omega
      have hbig' : ¬ (281474976710656 < (l : Int) * (i.bytes : Int)) := hbig
      have hmax : max (l : Int) 0 = l := by omega
      simp [Builtin.append_, run_underlying ht, run_underlying hu, sizeOf, typeInfo, zeroValue, hi, hzz, asInt, asIntOf, hw, hneg, hbig', hl0, hmax, hn63, hfit', Question.forced, Builtin.firstCells, hT0, newRow, grownCap, Result.andThen]
    have hzsz : z.cells.size = T.size := by
      have h1 := (zero_rep (A := avoid F G) (w := w) (n := ob.length) (G := G) T _ hz).1
      rw [← hzc] at h1
      simpa using h1
    have hcap : l ≤ grownCap w l 0 el := by simp only [grownCap, Question.cut]; omega
    obtain ⟨hl, hc⟩ := zeros_cells (A := avoid F G) (w := w) (n := ob.length) (G := G) hzc hz l
    obtain ⟨G', hn1, hn2, hn3, hn4⟩ := new_arr inv (T := T) (xs := List.replicate l T.dflt) w.drew (.inr rfl) (Builtin.zeroCells z.cells l ++ Builtin.zeroCells z.cells (grownCap w l 0 el - l)) el
      (grownCap w l 0 el) hT (by simpa using hcap) (by
        simp only [Array.size_append, Builtin.zeroCells, Array.size_map, Array.size_range, hzsz]
        rw [← Nat.add_mul]
        congr 1; omega) (fun p q hp hq => by
        have := hc p q hp hq
        have hlt := mul_lt_cap hp hq
        rw [← hl] at hlt
        have e1 : (Builtin.zeroCells z.cells l ++ Builtin.zeroCells z.cells (grownCap w l 0 el - l)).getD (p * T.size + q) undef = (Builtin.zeroCells z.cells l).toList.getD (p * T.size + q) undef := by
          have hlt2 : p * T.size + q < (Builtin.zeroCells z.cells l).size := by simpa using hlt
          simp [Array.getD, List.getD, hlt2, show p * T.size + q < (Builtin.zeroCells z.cells l).size + (Builtin.zeroCells z.cells (grownCap w l 0 el - l)).size by omega]
        simp only [e1]; exact this) none
    simp only [List.length_replicate] at hn4
    exact ⟨_, _, _, _, G', e, by simpa using hn4, hn1, hn2, by simp, hrun⟩

end
end Go.Proofs.YtlbammfnkphajaaGreatDoor.Abs
