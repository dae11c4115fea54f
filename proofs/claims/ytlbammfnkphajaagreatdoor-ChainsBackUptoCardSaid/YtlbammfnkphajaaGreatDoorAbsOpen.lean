/- Arguments as the abstract machine sees them: what a reading says of a datum. -/
import Derived.Test.YtlbammfnkphajaaGreatDoorAbsFn
import Derived.Test.YtlbammfnkphajaaGreatDoorRows
import Derived.ChangeArms
import Derived.WideShapes
import Derived.WideKeyArgs
import Derived.ChangeSame
namespace Go.Proofs.YtlbammfnkphajaaGreatDoor.Abs
open Go Go.ChangeShapes Go.WideShapes

/-- A datum's type and the fields (type, offset) of the program that it stands for, from an offset on. -/
def chk (TT : Nat → TI) : Ty → List (Nat × Nat) → Nat → Bool
  | .int k, fs, off => match fs with
    | [(t, o)] => (match (TT t).kind with | .int k' => decide (k' = k) | _ => false) && decide ((TT t).size = 1) && decide (o = off)
    | _ => false
  | .bool, fs, off => match fs with
    | [(t, o)] => (match (TT t).kind with | .bool => true | _ => false) && decide ((TT t).size = 1) && decide (o = off)
    | _ => false
  | .str, fs, off => match fs with
    | [(t, o)] => (match (TT t).kind with | .str => true | _ => false) && decide ((TT t).size = 1) && decide (o = off)
    | _ => false
  | .sl e, fs, off => match fs with
    | [(t, o)] => (match (TT t).kind with | .sl u => decide ((TT u).size = e.size) && decide (0 < e.size) && (match (TT u).kind with | .other => false | _ => true) && chk TT e [(u, 0)] 0 | _ => false) && decide ((TT t).size = 1) && decide (o = off)
    | _ => false
  | .st a, fs, off => match fs with
    | [(t, o)] => (match (TT t).kind with | .st fs' => chk TT a fs' 0 | .arr m u => !(TT u).kind.isOther && chk TT a ((List.range m).map fun i => (u, i * (TT u).size)) 0 | _ => false) && decide ((TT t).size = a.size) && decide (o = off)
    | _ => false
  | .pair a b, fs, off => match fs with
    | f :: r => chk TT a [f] off && chk TT b r (off + a.size)
    | [] => false
  | .unit, _, _ => false
  | .ptr _, _, _ => false
  | .map _ _, _, _ => false
  | .nsl _, _, _ => false

section
variable {H : Type}

def Reads : (T : Ty) → T.D → List (DataW H) → Prop
  | .int k, n, ds => ds = [.lit (.int k n)] ∧ (Lit.int k n).wf = true
  | .bool, b, ds => ds = [.lit (.bool b)]
  | .str, s, ds => ds = [.lit (.string s)]
  | .sl e, xs, ds => (xs = [] ∧ ds = [.nil]) ∨ ∃ es sp, ds = [.slice es sp] ∧ List.length (α := e.D) xs = es.length ∧ ∀ (i : Nat) (x : e.D) (y : DataW H), (show List e.D from xs)[i]? = some x → es[i]? = some y → Reads e x [y]
  | .st a, x, ds => ∃ ps, ds = [.agg ps] ∧ Reads a x ps
  | .pair a b, x, ds => ∃ d ps, ds = d :: ps ∧ Reads a x.1 [d] ∧ Reads b x.2 ps
  | .unit, _, _ => False
  | .ptr _, _, _ => False
  | .map _ _, _, _ => False
  | .nsl _, _, _ => False

/-- How many values and letters a datum holds. -/
def bulk : (T : Ty) → T.D → Nat
  | .int _, _ => 1
  | .bool, _ => 1
  | .str, s => s.length + 1
  | .sl e, xs => (xs.map (bulk e)).sum + 1
  | .st a, x => bulk a x + 1
  | .pair a b, x => bulk a x.1 + bulk b x.2
  | .unit, _ => 0
  | .ptr _, _ => 0
  | .map _ _, _ => 0
  | .nsl _, _ => 0

/-- Each number is one of its kind. -/
def wfD : (T : Ty) → T.D → Prop
  | .int k, n => (Lit.int k n).wf = true
  | .bool, _ => True
  | .str, _ => True
  | .sl e, xs => ∀ x ∈ xs, wfD e x
  | .st a, x => wfD a x
  | .pair a b, x => wfD a x.1 ∧ wfD b x.2
  | .unit, _ => True
  | .ptr _, _ => True
  | .map _ _, _ => True
  | .nsl _, _ => True

theorem reads_wf : ∀ (T : Ty) (x : T.D) (ds : List (DataW H)), Reads T x ds → wfD T x
  | .int k, n, ds, h => h.2
  | .bool, _, _, _ => trivial
  | .str, _, _, _ => trivial
  | .sl e, xs, ds, h => by
    rcases h with ⟨rfl, _⟩ | ⟨es, sp, rfl, hl, h⟩
    · intro x hx; cases hx
    · intro x hx
      obtain ⟨i, hi, rfl⟩ := List.getElem_of_mem hx
      exact reads_wf e _ _ (h i _ es[i] (List.getElem?_eq_getElem hi) (List.getElem?_eq_getElem (hl ▸ hi)))
  | .st a, x, ds, ⟨ps, _, h⟩ => reads_wf a x ps h
  | .pair a b, x, ds, ⟨d, ps, _, h1, h2⟩ => ⟨reads_wf a x.1 _ h1, reads_wf b x.2 _ h2⟩
  | .unit, _, _, _ => trivial

theorem bulkAll_cons (d : DataW H) (r : List (DataW H)) : Rows.uptoBulkAll (d :: r) = Rows.uptoBulk d + Rows.uptoBulkAll r := by rw [Rows.uptoBulkAll]
theorem bulkAll_nil : Rows.uptoBulkAll ([] : List (DataW H)) = 0 := by rw [Rows.uptoBulkAll]

theorem reads_bulk : ∀ (T : Ty) (x : T.D) (ds : List (DataW H)), Reads T x ds → bulk T x ≤ Rows.uptoBulkAll ds
  | .int k, n, ds, h => by rw [h.1, bulkAll_cons, bulkAll_nil]; simp [bulk, Rows.uptoBulk]
  | .bool, b, ds, h => by rw [show ds = _ from h, bulkAll_cons, bulkAll_nil]; simp [bulk, Rows.uptoBulk]
  | .str, s, ds, h => by rw [show ds = _ from h, bulkAll_cons, bulkAll_nil]; simp [bulk, Rows.uptoBulk]
  | .sl e, xs, ds, h => by
    rcases h with ⟨rfl, rfl⟩ | ⟨es, sp, rfl, hl, h⟩
    · rw [bulkAll_cons, bulkAll_nil]; simp [bulk, Rows.uptoBulk]
    · rw [bulkAll_cons, bulkAll_nil, Rows.uptoBulk]
      have key : ∀ (xs : List e.D) (es : List (DataW H)), xs.length = es.length → (∀ (i : Nat) (x : e.D) (y : DataW H), xs[i]? = some x → es[i]? = some y → Reads e x [y]) → (xs.map (bulk e)).sum ≤ Rows.uptoBulkAll es := by
        intro xs
        induction xs with
        | nil => intro es _ _; simp
        | cons x xs ih =>
          intro es hl h
          cases es with
          | nil => simp at hl
          | cons y es =>
            rw [bulkAll_cons]
            have h1 := reads_bulk e x [y] (h 0 x y rfl rfl)
            rw [bulkAll_cons, bulkAll_nil] at h1
            have h2 := ih es (by simpa using hl) fun i x y hx hy => h (i + 1) x y (by simpa using hx) (by simpa using hy)
            simp only [List.map_cons, List.sum_cons]
            omega
      have := key xs es hl h
      simp only [bulk]
      omega
  | .st a, x, ds, ⟨ps, hd, h⟩ => by
    rw [hd, bulkAll_cons, bulkAll_nil, Rows.uptoBulk]
    have := reads_bulk a x ps h
    simp only [bulk]; omega
  | .pair a b, x, ds, ⟨d, ps, hd, h1, h2⟩ => by
    rw [hd, bulkAll_cons]
    have e1 := reads_bulk a x.1 _ h1
    have e2 := reads_bulk b x.2 _ h2
    rw [bulkAll_cons, bulkAll_nil] at e1
    simp only [bulk]; omega
  | .unit, _, _, h => h.elim
  | .ptr _, _, _, h => h.elim
  | .map _ _, _, _, h => h.elim
  | .nsl _, _, _, h => h.elim

variable {enc : TypeId × Value → H} {P : Program} {TT : Nat → TI} {w : World} {base : Nat} {sp : Nat → Bool} {held : Bool} {A : Nat → Prop} {n : Nat} {G : Gs}

theorem tt_cells (tt : TTok P TT) {t : Nat} (h : (TT t).kind ≠ .other) : P.cellsOf t = (TT t).size := by
  obtain ⟨i, z, hi, hs, _⟩ := ((tt t).resolve_left h).2
  simp [Program.cellsOf, hi, hs]

theorem drop_take_one {cs : List Value} {off : Nat} {v : Value} (h : (cs.drop off).take 1 = [v]) : cs.getD off undef = v := by
  cases hd : cs.drop off with
  | nil => rw [hd] at h; simp at h
  | cons y r =>
    rw [hd] at h
    simp only [List.take_succ_cons, List.take_zero, List.cons.injEq, and_true] at h
    have : (cs.drop off)[0]? = some y := by rw [hd]; rfl
    rw [List.getElem?_drop, Nat.add_zero] at this
    simp [List.getD, this, h]

theorem tt_bool (tt : TTok P TT) {t : Nat} (h : (TT t).kind = .bool) : P.underlying t = some .bool := by
  obtain ⟨d, hd, hf⟩ := tt_desc tt (t := t) (by rw [h]; simp)
  rw [h] at hf
  cases d <;> simp only [TK.fits] at hf <;> first | exact hf.elim | exact hd

theorem cells_get {a : Addr} {k : Nat} {cs : List Value} (h : w.cells? base a k = some cs) : cs.length = k ∧ ∀ m, m < k → w.cell? (a.add m) = some (cs.getD m undef) := by
  unfold World.cells? at h
  split at h
  · have hl := mapM_some_length h
    simp only [List.length_range] at hl
    refine ⟨hl, fun m hm => ?_⟩
    have := mapM_some_get h m m (by simp [hm])
    rw [this, List.getD_eq_getElem?_getD, List.getElem?_eq_getElem (by omega)]
    rfl
  · cases h

theorem mapM_get {α β : Type} {f : α → Option β} : ∀ (l : List α) (ys : List β), l.mapM f = some ys → ys.length = l.length ∧ ∀ (i : Nat) (x : α), l[i]? = some x → f x = ys[i]?
  | [], ys, h => by
    simp at h
    subst h; simp
  | x :: l, ys, h => by
    simp only [List.mapM_cons, Option.bind_eq_bind, Option.bind_eq_some_iff, Option.pure_def, Option.some.injEq] at h
    obtain ⟨y, h1, zs, h2, rfl⟩ := h
    obtain ⟨h3, h4⟩ := mapM_get l zs h2
    refine ⟨by simp [h3], fun i z hz => ?_⟩
    cases i with
    | zero =>
      simp only [List.getElem?_cons_zero, Option.some.injEq] at hz
      subst hz; simp [h1]
    | succ i => simpa using h4 i z (by simpa using hz)

theorem trod_arr {t k e fuel : Nat} {cs : List Value} {x : DataW H × List MemPlace} (hu : P.underlying t = some (.array k e)) (h : DataW.trod enc P w base sp held fuel t cs = some x) :
    ∃ (ys : List (DataW H × List MemPlace)) (m : Nat), x = (.agg (ys.map (·.1)), ys.flatMap (·.2)) ∧ ys.length = k ∧ ∀ i, i < k → DataW.trod enc P w base sp held m e ((cs.drop (i * P.cellsOf e)).take (P.cellsOf e)) = ys[i]? := by
  cases fuel with
  | zero => cases h
  | succ m =>
    unfold DataW.trod at h
    rw [hu] at h
    simp only at h
    split at h
    · simp only [Option.map_eq_some_iff] at h
      obtain ⟨ys, h1, rfl⟩ := h
      obtain ⟨h2, h3⟩ := mapM_get _ _ h1
      exact ⟨ys, m, rfl, by simpa using h2, fun i hi => h3 i i (by simp [hi])⟩
    · cases h

theorem open_fields (tt : TTok P TT) (hA : ∀ b, ¬ A b) : ∀ (T : Ty) (fs : List (Nat × Nat)) (off fuel : Nat) (cs : List Value) (xs : List (DataW H × List MemPlace)), chk TT T fs off = true →
    xs.length = fs.length → (∀ (i : Nat) (f : Nat × Nat), fs[i]? = some f → DataW.trod enc P w base sp held fuel f.1 ((cs.drop f.2).take (P.cellsOf f.1)) = xs[i]?) →
    ∃ v : T.D, Reads T v (xs.map (·.1)) ∧ ∀ j, j < T.size → Rep A w n G ((cellsAV T v).getD j .dead) (cs.getD (off + j) undef)
  | .int k, fs, off, fuel, cs, xs, hc, hl, h => by
    unfold chk at hc
    split at hc
    · rename_i t o
      simp only [Bool.and_eq_true, decide_eq_true_eq] at hc
      obtain ⟨⟨h1, h2⟩, rfl⟩ := hc
      split at h1
      · rename_i k' hk
        simp only [decide_eq_true_eq] at h1
        subst h1
        obtain ⟨x, rfl⟩ : ∃ x, xs = [x] := by
          match xs, hl with
          | [x], _ => exact ⟨x, rfl⟩
        have h0 := h 0 (t, o) rfl
        rw [tt_cells tt (by rw [hk]; simp), h2] at h0
        obtain ⟨m, e1, e2, e3⟩ := DataW.trod_int (tt_int tt hk) h0
        refine ⟨m, by simp [Reads, e2, e3], fun j hj => ?_⟩
        have hj0 : j = 0 := by simpa [Ty.size] using hj
        subst hj0
        rw [Nat.add_zero, drop_take_one e1]
        exact .int _ _
      · cases h1
    · cases hc
  | .bool, fs, off, fuel, cs, xs, hc, hl, h => by
    unfold chk at hc
    split at hc
    · rename_i t o
      simp only [Bool.and_eq_true, decide_eq_true_eq] at hc
      obtain ⟨⟨h1, h2⟩, rfl⟩ := hc
      split at h1
      · rename_i hk
        obtain ⟨x, rfl⟩ : ∃ x, xs = [x] := by
          match xs, hl with
          | [x], _ => exact ⟨x, rfl⟩
        have h0 := h 0 (t, o) rfl
        rw [tt_cells tt (by rw [hk]; simp), h2] at h0
        obtain ⟨m, e1, e2⟩ := DataW.trod_bool (tt_bool tt hk) h0
        refine ⟨m, by simp [Reads, e2], fun j hj => ?_⟩
        have hj0 : j = 0 := by simpa [Ty.size] using hj
        subst hj0
        rw [Nat.add_zero, drop_take_one e1]
        exact .bool _
      · cases h1
    · cases hc
  | .str, fs, off, fuel, cs, xs, hc, hl, h => by
    unfold chk at hc
    split at hc
    · rename_i t o
      simp only [Bool.and_eq_true, decide_eq_true_eq] at hc
      obtain ⟨⟨h1, h2⟩, rfl⟩ := hc
      split at h1
      · rename_i hk
        obtain ⟨x, rfl⟩ : ∃ x, xs = [x] := by
          match xs, hl with
          | [x], _ => exact ⟨x, rfl⟩
        have h0 := h 0 (t, o) rfl
        rw [tt_cells tt (by rw [hk]; simp), h2] at h0
        obtain ⟨m, e1, e2, e3⟩ := DataW.trod_string (tt_str tt hk) h0
        refine ⟨m.data.toList, by simp [Reads, e2], fun j hj => ?_⟩
        have hj0 : j = 0 := by simpa [Ty.size] using hj
        subst hj0
        rw [Nat.add_zero, drop_take_one e1]
        exact .str m.data.toList
      · cases h1
    · cases hc
  | .sl e, fs, off, fuel, cs, xs, hc, hl, h => by
    unfold chk at hc
    split at hc
    · rename_i t o
      simp only [Bool.and_eq_true, decide_eq_true_eq] at hc
      obtain ⟨⟨h1, h2⟩, rfl⟩ := hc
      split at h1
      · rename_i u hk
        simp only [Bool.and_eq_true, decide_eq_true_eq] at h1
        obtain ⟨⟨⟨hs, hpos⟩, hno⟩, hce⟩ := h1
        have hnu : (TT u).kind ≠ .other := by
          intro h; rw [h] at hno; cases hno
        obtain ⟨x, rfl⟩ : ∃ x, xs = [x] := by
          match xs, hl with
          | [x], _ => exact ⟨x, rfl⟩
        have h0 := h 0 (t, o) rfl
        rw [tt_cells tt (by rw [hk]; simp), h2] at h0
        have hcu : P.cellsOf u = e.size := (tt_cells tt hnu).trans hs
        rcases DataW.trod_slice (tt_sl tt hk) h0 with ⟨e1, e2⟩ | ⟨a, len, cap, elems, rest, m, _, e1, rfl, _, hlc, _, hel, hget, _, _⟩
        · subst e2
          refine ⟨[], .inl ⟨rfl, by simp⟩, fun j hj => ?_⟩
          have hj0 : j = 0 := by simpa [Ty.size] using hj
          subst hj0
          rw [Nat.add_zero, drop_take_one e1]
          exact .islE _ _ _
        · have each : ∀ i, i < len → ∃ (v : e.D) (cs' : List Value), (∀ y, elems[i]? = some y → Reads e v [y.1]) ∧ (∀ m, m < e.size → w.cell? (a.add (i * e.size + m)) = some (cs'.getD m undef)) ∧
              ∀ j, j < e.size → Rep A w n G ((cellsAV e v).getD j .dead) (cs'.getD j undef) := by
            intro i hi
            have hy : elems[i]? = some elems[i] := List.getElem?_eq_getElem (by omega)
            have h3 := hget i hi
            rw [hcu, hy, Option.bind_eq_some_iff] at h3
            obtain ⟨cs', h4, h5⟩ := h3
            obtain ⟨q1, q2⟩ := cells_get h4
            obtain ⟨v, r1, r2⟩ := open_fields tt hA e [(u, 0)] 0 m cs' [elems[i]] hce rfl (by
              intro i2 f hf
              cases i2 with
              | zero =>
                simp only [List.getElem?_cons_zero, Option.some.injEq] at hf
                subst hf
                simp only [List.drop_zero, hcu]
                rw [List.take_of_length_le (by omega)]
                simpa using h5
              | succ i2 => simp at hf)
            refine ⟨v, cs', fun y hy2 => ?_, fun m hm => ?_, fun j hj => by simpa using r2 j hj⟩
            · rw [hy] at hy2; cases hy2; exact r1
            · have := q2 m hm
              have e3 : (a.add (i * e.size)).add m = a.add (i * e.size + m) := by
                by_cases hm0 : m = 0
                · subst hm0; simp [Addr.add]
                · by_cases hi0 : i * e.size = 0
                  · simp [Addr.add, hi0]
                  · have : i * e.size + m ≠ 0 := by omega
                    simp only [Addr.add, if_neg hm0, if_neg hi0, if_neg this, Nat.add_assoc]
              rw [← e3]; exact this
          have hall : ∀ i : Fin len, ∃ p : e.D × List Value, (∀ y, elems[i.1]? = some y → Reads e p.1 [y.1]) ∧ (∀ m, m < e.size → w.cell? (a.add (i.1 * e.size + m)) = some (p.2.getD m undef)) ∧
              ∀ j, j < e.size → Rep A w n G ((cellsAV e p.1).getD j .dead) (p.2.getD j undef) := fun i => by
            obtain ⟨v, cs', h1, h2, h3⟩ := each i.1 i.2
            exact ⟨(v, cs'), h1, h2, h3⟩
          let f : Fin len → e.D × List Value := fun i => Classical.choose (hall i)
          have hf : ∀ i, _ := fun i => Classical.choose_spec (hall i)
          let vs : List e.D := List.ofFn fun i => (f i).1
          have hvl : vs.length = len := by simp [vs]
          have hvg : ∀ i (hi : i < len), vs[i]? = some (f ⟨i, hi⟩).1 := fun i hi => by simp [vs, hi]
          refine ⟨vs, .inr ⟨elems.map (·.1), rest.map (·.1), by simp, by simp [hvl, hel], fun i x y hx hy => ?_⟩, fun j hj => ?_⟩
          · have hi : i < len := by
              have h7 : i < vs.length := (List.getElem?_eq_some_iff.1 hx).1
              omega
            have hx : vs[i]? = some x := hx
            rw [hvg i hi] at hx
            cases hx
            rw [List.getElem?_map, Option.map_eq_some_iff] at hy
            obtain ⟨z, hz, rfl⟩ := hy
            exact (hf ⟨i, hi⟩).1 z hz
          · have hj0 : j = 0 := by simpa [Ty.size] using hj
            subst hj0
            rw [Nat.add_zero, drop_take_one e1]
            show Rep A w n G (.isl e vs) (.slice (some a) len cap)
            by_cases hl0 : len = 0
            · have : vs = [] := List.length_eq_zero_iff.1 (by omega)
              rw [this, hl0]
              exact .islE _ _ _
            · have hspot : a.spot = none := by
                have := (hf ⟨0, by omega⟩).2.1 0 hpos
                simp only [Nat.zero_mul, Nat.add_zero, Addr.add, if_true] at this
                unfold World.cell? at this
                split at this
                · split at this
                  · cases this
                  · rename_i hsp
                    cases hq : a.spot with
                    | none => rfl
                    | some q => rw [hq] at hsp; simp at hsp
                · cases this
              obtain ⟨b, off, spot⟩ := a
              simp only at hspot
              subst hspot
              have hadd : ∀ m, (⟨b, off, none⟩ : Addr).add m = ⟨b, off + m, none⟩ := fun m => by
                unfold Addr.add
                split
                · rename_i h; rw [h]; rfl
                · rfl
              let C : Nat → Value := fun m => if h : m / e.size < len then ((f ⟨m / e.size, h⟩).2).getD (m % e.size) undef else undef
              rw [← hvl]
              refine .isl e vs b off cap C (fun h0 => by rw [h0] at hvl; simp at hvl; omega) hpos (by omega) (hA b) (fun m hm => ?_) (fun i j hi hj => ?_)
              · rw [hvl] at hm
                have hd : m / e.size < len := (Nat.div_lt_iff_lt_mul hpos).2 hm
                have := (hf ⟨m / e.size, hd⟩).2.1 (m % e.size) (Nat.mod_lt _ hpos)
                simp only at this
                rw [show m / e.size * e.size + m % e.size = m by rw [Nat.mul_comm]; exact Nat.div_add_mod _ _, hadd] at this
                simp only [C, dif_pos hd]
                exact this
              · rw [hvl] at hi
                have hd : (i * e.size + j) / e.size = i := by
                  rw [Nat.mul_comm, Nat.mul_add_div hpos, Nat.div_eq_of_lt hj, Nat.add_zero]
                have hm : (i * e.size + j) % e.size = j := by
                  rw [Nat.mul_comm, Nat.mul_add_mod, Nat.mod_eq_of_lt hj]
                have := (hf ⟨i, hi⟩).2.2 j hj
                simp only [C]
                have hg : vs.getD i e.dflt = (f ⟨i, hi⟩).1 := by simp [List.getD, hvg i hi]
                rw [hg]
                simp only [hd, hm, dif_pos hi]
                exact this
      · cases h1
    · cases hc
  | .st a, fs, off, fuel, cs, xs, hc, hl, h => by
    unfold chk at hc
    split at hc
    · rename_i t o
      simp only [Bool.and_eq_true, decide_eq_true_eq] at hc
      obtain ⟨⟨h1, h2⟩, rfl⟩ := hc
      split at h1
      · rename_i fs' hk
        obtain ⟨x, rfl⟩ : ∃ x, xs = [x] := by
          match xs, hl with
          | [x], _ => exact ⟨x, rfl⟩
        have h0 := h 0 (t, o) rfl
        rw [tt_cells tt (by rw [hk]; simp), h2] at h0
        obtain ⟨fields, hu, hfs⟩ := tt_st tt hk
        obtain ⟨ys, m, _, rfl, hlen, hyl, hget⟩ := DataW.trod_struct hu h0
        obtain ⟨v, r1, r2⟩ := open_fields tt hA a fs' 0 m ((cs.drop o).take a.size) ys h1 (by rw [hyl, ← hfs]; simp) (by
          intro i f hf
          rw [← hfs, List.getElem?_map, Option.map_eq_some_iff] at hf
          obtain ⟨fd, hfd, rfl⟩ := hf
          exact hget i fd (by simpa using hfd))
        refine ⟨v, ⟨ys.map (·.1), by simp, r1⟩, fun j hj => ?_⟩
        have := r2 j hj
        have hj' : j < a.size := hj
        have e1 : ((cs.drop o).take a.size).getD (0 + j) undef = cs.getD (o + j) undef := by
          simp [List.getD, hj', List.getElem?_drop]
        rw [e1] at this
        exact this
      · rename_i k u hk
        simp only [Bool.and_eq_true, Bool.not_eq_true'] at h1
        have hko := isOther_false h1.1
        obtain ⟨x, rfl⟩ : ∃ x, xs = [x] := by
          match xs, hl with
          | [x], _ => exact ⟨x, rfl⟩
        have h0 := h 0 (t, o) rfl
        rw [tt_cells tt (by rw [hk]; simp), h2] at h0
        obtain ⟨ys, m, rfl, hyl, hget⟩ := trod_arr (tt_arr tt hk) h0
        obtain ⟨v, r1, r2⟩ := open_fields tt hA a ((List.range k).map fun i => (u, i * (TT u).size)) 0 m ((cs.drop o).take a.size) ys h1.2 (by rw [hyl]; simp) (by
          intro i f hf
          rw [List.getElem?_map, Option.map_eq_some_iff] at hf
          obtain ⟨i', hi', rfl⟩ := hf
          obtain ⟨hlt, hii⟩ := List.getElem?_eq_some_iff.1 hi'
          simp only [List.getElem_range] at hii
          subst hii
          have := hget i (by simpa using hlt)
          rw [tt_cells tt hko] at this ⊢
          exact this)
        refine ⟨v, ⟨ys.map (·.1), by simp, r1⟩, fun j hj => ?_⟩
        have := r2 j hj
        have hj' : j < a.size := hj
        have e1 : ((cs.drop o).take a.size).getD (0 + j) undef = cs.getD (o + j) undef := by
          simp [List.getD, hj', List.getElem?_drop]
        rw [e1] at this
        exact this
      · cases h1
    · cases hc
  | .pair a b, fs, off, fuel, cs, xs, hc, hl, h => by
    unfold chk at hc
    split at hc
    · rename_i f r
      simp only [Bool.and_eq_true] at hc
      obtain ⟨x, ys, rfl⟩ : ∃ x ys, xs = x :: ys := by
        match xs, hl with
        | x :: ys, _ => exact ⟨x, ys, rfl⟩
      obtain ⟨va, r1, r2⟩ := open_fields tt hA a [f] off fuel cs [x] hc.1 rfl (by
        intro i g hg
        cases i with
        | zero =>
          simp only [List.getElem?_cons_zero, Option.some.injEq] at hg
          subst hg
          exact h 0 f rfl
        | succ i => simp at hg)
      obtain ⟨vb, q1, q2⟩ := open_fields tt hA b r (off + a.size) fuel cs ys hc.2 (by simpa using hl) (fun i g hg => by simpa using h (i + 1) g (by simpa using hg))
      refine ⟨(va, vb), ⟨x.1, ys.map (·.1), rfl, r1, q1⟩, fun j hj => ?_⟩
      have hla : (cellsAV a va).length = a.size := cellsAV_length a va
      show Rep A w n G ((cellsAV a va ++ cellsAV b vb).getD j .dead) _
      by_cases hja : j < a.size
      · have e1 : (cellsAV a va ++ cellsAV b vb).getD j .dead = (cellsAV a va).getD j .dead := by
          simp [List.getD, List.getElem?_append_left (show j < (cellsAV a va).length by omega)]
        rw [e1]; exact r2 j hja
      · have e1 : (cellsAV a va ++ cellsAV b vb).getD j .dead = (cellsAV b vb).getD (j - a.size) .dead := by
          simp [List.getD, List.getElem?_append_right (show (cellsAV a va).length ≤ j by omega), hla]
        rw [e1]
        have := q2 (j - a.size) (by simp only [Ty.size] at hj; omega)
        rwa [show off + a.size + (j - a.size) = off + j by omega] at this
    · cases hc
  | .unit, _, _, _, _, _, hc, _, _ => by simp [chk] at hc
end
end Go.Proofs.YtlbammfnkphajaaGreatDoor.Abs
