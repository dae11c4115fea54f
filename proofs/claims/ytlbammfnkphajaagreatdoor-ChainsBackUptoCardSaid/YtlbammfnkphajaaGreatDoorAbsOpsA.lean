/- The operations that leave memory as it is: what the abstract machine computes is what the model's operation gives. -/
import Derived.Test.YtlbammfnkphajaaGreatDoorAbsRel
import Derived.Laws.Entries
import Derived.Laws.Strings
import Derived.Laws.Concat
import Derived.Laws.Cells
namespace Go.Proofs.YtlbammfnkphajaaGreatDoor.Abs
open Go

/-! ### The program's types -/

def TK.fits : TK → TypeDesc → Prop
  | .int k, .int k' => k' = k
  | .bool, .bool => True
  | .str, .string => True
  | .sl e, .slice e' => e' = e
  | .st fs, .struct fields => fields.toList.map (fun f => (f.type, f.offset)) = fs
  | .ptr e, .pointer e' => e' = e
  | .map k v, .map k' v' => k' = k ∧ v' = v
  | .func, .func _ _ _ => True
  | .iface, .interface _ => True
  | .arr n e, .array n' e' => n' = n ∧ e' = e
  | _, _ => False

def vAgg : Value → Bool
  | .agg _ => true
  | _ => false

def TI.ok (P : Program) (t : Nat) (ti : TI) : Prop :=
  (∃ d, P.underlying t = some d ∧ ti.kind.fits d) ∧ ∃ i z, P.info? t = some i ∧ i.size = ti.size ∧ i.bytes = ti.bytes ∧ i.zero = some z ∧ z.cells.toList = ti.zero ∧ vAgg z = ti.kind.isAgg

theorem ti_ok {P : Program} {t : Nat} {ti : TI} {d : TypeDesc} (h1 : P.underlying t = some d) (h2 : ti.kind.fits d)
    (h3 : (P.info? t).map (fun i => (i.size, i.bytes, i.zero.map fun z => (z.cells.toList, vAgg z))) = some (ti.size, ti.bytes, some (ti.zero, ti.kind.isAgg))) : ti.ok P t := by
  refine ⟨⟨d, h1, h2⟩, ?_⟩
  cases hi : P.info? t with
  | none => rw [hi] at h3; cases h3
  | some i =>
    rw [hi] at h3
    simp only [Option.map_some, Option.some.injEq, Prod.mk.injEq, Option.map_eq_some_iff] at h3
    obtain ⟨h4, h5, z, h6, h7⟩ := h3
    exact ⟨i, z, rfl, h4, h5, h6, h7.1, h7.2⟩

theorem ti_ok_fn {P : Program} {t : Nat} {ti : TI} (h1 : ((P.underlying t).map fun d => match d with | .func _ _ _ => true | _ => false) = some true) (h2 : ti.kind = .func)
    (h3 : (P.info? t).map (fun i => (i.size, i.bytes, i.zero.map fun z => (z.cells.toList, vAgg z))) = some (ti.size, ti.bytes, some (ti.zero, ti.kind.isAgg))) : ti.ok P t := by
  cases hu : P.underlying t with
  | none => rw [hu] at h1; cases h1
  | some d =>
    rw [hu] at h1
    cases d <;> simp only [Option.map_some, Option.some.injEq] at h1 <;> first | (cases h1; done) | exact ti_ok hu (by rw [h2]; trivial) h3

theorem ti_ok_st {P : Program} {t : Nat} {ti : TI} (h1 : (P.underlying t).map (fun d => match d with | .struct fields => some (TK.st (fields.toList.map fun f => (f.type, f.offset))) | _ => none) = some (some ti.kind))
    (h3 : (P.info? t).map (fun i => (i.size, i.bytes, i.zero.map fun z => (z.cells.toList, vAgg z))) = some (ti.size, ti.bytes, some (ti.zero, ti.kind.isAgg))) : ti.ok P t := by
  cases hd : P.underlying t with
  | none => rw [hd] at h1; cases h1
  | some d =>
    rw [hd] at h1
    simp only [Option.map_some, Option.some.injEq] at h1
    split at h1
    · simp only [Option.some.injEq] at h1
      exact ti_ok hd (by rw [← h1]; rfl) h3
    · cases h1

def TTok (P : Program) (TT : Nat → TI) : Prop := ∀ t, (TT t).kind = .other ∨ (TT t).ok P t

section
variable {P : Program} {TT : Nat → TI} (tt : TTok P TT)
include tt

theorem tt_desc {t : Nat} (h : (TT t).kind ≠ .other) : ∃ d, P.underlying t = some d ∧ (TT t).kind.fits d := ((tt t).resolve_left h).1

theorem tt_sl {t e : Nat} (h : (TT t).kind = .sl e) : P.underlying t = some (.slice e) := by
  obtain ⟨d, hd, hf⟩ := tt_desc tt (t := t) (by rw [h]; simp)
  rw [h] at hf
  cases d <;> simp only [TK.fits] at hf <;> first | exact hf.elim | (subst hf; exact hd)
theorem tt_arr {t m e : Nat} (h : (TT t).kind = .arr m e) : P.underlying t = some (.array m e) := by
  obtain ⟨d, hd, hf⟩ := tt_desc tt (t := t) (by rw [h]; simp)
  rw [h] at hf
  cases d <;> simp only [TK.fits] at hf <;> first | exact hf.elim | (obtain ⟨rfl, rfl⟩ := hf; exact hd)
theorem tt_str {t : Nat} (h : (TT t).kind = .str) : P.underlying t = some .string := by
  obtain ⟨d, hd, hf⟩ := tt_desc tt (t := t) (by rw [h]; simp)
  rw [h] at hf
  cases d <;> simp only [TK.fits] at hf <;> first | exact hf.elim | exact hd
theorem tt_int {t : Nat} {k : IntKind} (h : (TT t).kind = .int k) : P.underlying t = some (.int k) := by
  obtain ⟨d, hd, hf⟩ := tt_desc tt (t := t) (by rw [h]; simp)
  rw [h] at hf
  cases d <;> simp only [TK.fits] at hf <;> first | exact hf.elim | (subst hf; exact hd)
theorem tt_map {t k v : Nat} (h : (TT t).kind = .map k v) : P.underlying t = some (.map k v) := by
  obtain ⟨d, hd, hf⟩ := tt_desc tt (t := t) (by rw [h]; simp)
  rw [h] at hf
  cases d <;> simp only [TK.fits] at hf <;> first | exact hf.elim | (obtain ⟨rfl, rfl⟩ := hf; exact hd)
theorem tt_st {t : Nat} {fs : List (Nat × Nat)} (h : (TT t).kind = .st fs) : ∃ fields, P.underlying t = some (.struct fields) ∧ fields.toList.map (fun f => (f.type, f.offset)) = fs := by
  obtain ⟨d, hd, hf⟩ := tt_desc tt (t := t) (by rw [h]; simp)
  rw [h] at hf
  cases d <;> simp only [TK.fits] at hf <;> first | exact hf.elim | exact ⟨_, hd, hf⟩

theorem tt_agg {t : Nat} (h : (TT t).kind ≠ .other) (w : World) : (isAgg t).run P w = .ok (TT t).kind.isAgg w := by
  obtain ⟨d, hd, hf⟩ := tt_desc tt h
  simp only [isAgg, Sem.run_bind, run_underlying hd]
  generalize (TT t).kind = q at hf
  cases d <;> cases q <;> simp_all [TK.fits, TK.isAgg]

theorem tt_size {t : Nat} (h : (TT t).kind ≠ .other) (w : World) : (sizeOf t).run P w = .ok (TT t).size w := by
  obtain ⟨i, z, hi, hs, _⟩ := ((tt t).resolve_left h).2
  simp [sizeOf, typeInfo, hi, hs]

theorem tt_info {t : Nat} (h : (TT t).kind ≠ .other) (w : World) : ∃ i, (typeInfo t).run P w = .ok i w ∧ i.bytes = (TT t).bytes ∧ i.size = (TT t).size := by
  obtain ⟨i, z, hi, hs, hb, _⟩ := ((tt t).resolve_left h).2
  exact ⟨i, by simp [typeInfo, hi], hb, hs⟩

theorem tt_zero {t : Nat} (h : (TT t).kind ≠ .other) (w : World) : ∃ z, (zeroValue t).run P w = .ok z w ∧ z.cells.toList = (TT t).zero ∧ vAgg z = (TT t).kind.isAgg := by
  obtain ⟨i, z, hi, _, _, hz, he⟩ := ((tt t).resolve_left h).2
  exact ⟨z, by simp [zeroValue, typeInfo, hi, hz], he⟩
end

/-! ### An operation's end -/

def Post (P : Program) (o : Oper) (a : Act) (w : World) (K : Value → World → Prop) : Prop :=
  ∀ (next : Act → World → Prop) (Q : Exit → Act → World → Prop), (∀ x w', K x w' → next (a.put o.dst x) w') → o.wp P a w next Q

section
variable {P : Program} {o : Oper} {a : Act} {w w' : World} {K : Value → World → Prop}
theorem post_value {x : Value} (h : (execOp a.eval o).run P w = .ok (.value x) w') (hk : K x w') : Post P o a w K := by
  intro next Q hn
  unfold Oper.wp
  rw [h]
  exact hn _ _ hk
theorem post_skip (h : (execOp a.eval o).run P w = .ok .skip w') (hk : K undef w') : Post P o a w K := by
  intro next Q hn
  unfold Oper.wp
  rw [h]
  exact hn _ _ hk
theorem post_enter {f : FuncId} {args : Array Value} (h : (execOp a.eval o).run P w = .ok (.enter f args) w')
    (hc : Calls P f args w' fun e w'' => ∃ x, e = .returned x ∧ K x w'') : Post P o a w K := by
  intro next Q hn
  unfold Oper.wp
  rw [h]
  refine hc.mono ?_
  rintro e w'' ⟨x, rfl, hx⟩
  exact hn _ _ hx
end

theorem run_v {P : Program} {m : Sem Value} {w w' : World} {x : Value} (h : m.run P w = .ok x w') : (do pure (Next.value (← m)) : Sem Next).run P w = .ok (.value x) w' := by
  simp [h]
theorem run_u {P : Program} {m : Sem Unit} {w w' : World} (h : m.run P w = .ok () w') : (do m; pure Next.skip : Sem Next).run P w = .ok .skip w' := by
  simp [h]

/-! ### Numbers, strings, bools -/

section
variable {A : Nat → Prop} {w : World} {n : Nat} {G : Gs} {P : Program} {ρ : Type} {k : AV → Option ρ} {r : ρ}

theorem binInt_sound {op : BinOp} {c : IntKind} {m l : Int} (e : binInt op c m l k = some r) :
    ∃ v z, k v = some r ∧ Rep A w n G v z ∧ ∀ (t : TypeId) (w : World), (binOp op t (.int c m) (.int c l)).run P w = .ok z w := by
  cases op <;> simp only [binInt] at e
  case add => exact ⟨_, _, e, .int _ _, fun t w => by simp [binOp_add, Op.intArith]⟩
  case sub => exact ⟨_, _, e, .int _ _, fun t w => by simp [binOp_sub, Op.intArith]⟩
  case mul => exact ⟨_, _, e, .int _ _, fun t w => by simp [binOp_mul, Op.intArith]⟩
  case quo =>
    split at e
    · cases e
    · rename_i h; exact ⟨_, _, e, .int _ _, fun t w => by simp [binOp_quo, Op.intDiv, h]⟩
  case rem =>
    split at e
    · cases e
    · rename_i h; exact ⟨_, _, e, .int _ _, fun t w => by simp [binOp_rem, Op.intDiv, h]⟩
  case and => exact ⟨_, _, e, .int _ _, fun t w => by simp [binOp_and, Op.intBits, bitsOp]⟩
  case or => exact ⟨_, _, e, .int _ _, fun t w => by simp [binOp_or, Op.intBits, bitsOp]⟩
  case xor => exact ⟨_, _, e, .int _ _, fun t w => by simp [binOp_xor, Op.intBits, bitsOp]⟩
  case andNot => exact ⟨_, _, e, .int _ _, fun t w => by simp [binOp_andNot, Op.intBits, bitsOp]⟩
  case eql => exact ⟨_, _, e, .bool _, fun t w => by simp [binOp_eql]⟩
  case neq => exact ⟨_, _, e, .bool _, fun t w => by simp [binOp_neq]⟩
  case lss => exact ⟨_, _, e, .bool _, fun t w => by simp [binOp_lss]⟩
  case leq => exact ⟨_, _, e, .bool _, fun t w => by simp [binOp_leq]⟩
  case gtr => exact ⟨_, _, e, .bool _, fun t w => by simp [binOp_gtr]⟩
  case geq => exact ⟨_, _, e, .bool _, fun t w => by simp [binOp_geq]⟩
  all_goals cases e

theorem binStr_sound {op : BinOp} {s t : List UInt8} (e : binStr op s t k = some r) :
    ∃ v z, k v = some r ∧ Rep A w n G v z ∧ ∀ (y : TypeId) (w : World), (binOp op y (.string ⟨s.toArray⟩) (.string ⟨t.toArray⟩)).run P w = .ok z w := by
  cases op <;> simp only [binStr] at e
  case add =>
    split at e
    · rename_i h
      refine ⟨_, _, e, .str _, fun y w => ?_⟩
      show (Op.stringOp .add _ _).run P w = _
      rw [run_string_add_sum w _ _ (by simpa [ByteArray.size] using h), ByteArray.mk_append_mk]
    · cases e
  case eql => exact ⟨_, _, e, .bool _, fun y w => by simp [binOp, Op.stringOp]⟩
  case neq => exact ⟨_, _, e, .bool _, fun y w => by simp [binOp, Op.stringOp]⟩
  case lss => exact ⟨_, _, e, .bool _, fun y w => by simp [binOp, Op.stringOp]⟩
  case leq => exact ⟨_, _, e, .bool _, fun y w => by simp [binOp, Op.stringOp]⟩
  case gtr => exact ⟨_, _, e, .bool _, fun y w => by simp [binOp, Op.stringOp]⟩
  case geq => exact ⟨_, _, e, .bool _, fun y w => by simp [binOp, Op.stringOp]⟩
  all_goals cases e

theorem run_equalIn_bool (d : Nat) {t : TypeId} (h : P.underlying t = some .bool) (a b : Bool) (w : World) :
    (Op.equalIn (d + 1) t (.bool a) (.bool b)).run P w = .ok (a == b) w := by
  simp [Op.equalIn, run_underlying h]

theorem run_eql_bool {t : TypeId} (h : P.underlying t = some .bool) (a b : Bool) (w : World) : (binOp .eql t (.bool a) (.bool b)).run P w = .ok (.bool (a == b)) w := by
  show (do pure (.bool (← Op.equal t (.bool a) (.bool b))) : Sem Value).run P w = _
  rw [Sem.run_bind, show Op.equal t (.bool a) (.bool b) = Op.equalIn (9999 + 1) t (.bool a) (.bool b) from rfl, run_equalIn_bool 9999 h]
  rfl

theorem run_neq_bool {t : TypeId} (h : P.underlying t = some .bool) (a b : Bool) (w : World) : (binOp .neq t (.bool a) (.bool b)).run P w = .ok (.bool (!(a == b))) w := by
  show (do pure (.bool (!(← Op.equal t (.bool a) (.bool b)))) : Sem Value).run P w = _
  rw [Sem.run_bind, show Op.equal t (.bool a) (.bool b) = Op.equalIn (9999 + 1) t (.bool a) (.bool b) from rfl, run_equalIn_bool 9999 h]
  rfl

theorem binK_sound {TT : Nat → TI} (tt : TTok P TT) {ty : TypeId} {op : BinOp} {x y : AV} {a b : Value} (e : binK TT ty op x y k = some r) (hx : Rep A w n G x a) (hy : Rep A w n G y b) :
    ∃ v z, k v = some r ∧ Rep A w n G v z ∧ ∀ (X Y : Operand) (w : World), (do eqGuard op ty X Y a b; binOp op ty a b : Sem Value).run P w = .ok z w := by
  unfold binK at e
  split at e
  · cases hx; cases hy
    rename_i c m d l
    cases op
    case shl =>
      simp only at e
      by_cases h : 0 ≤ l
      · rw [if_pos h] at e
        refine ⟨_, _, e, .int _ _, fun X Y w => ?_⟩
        have h' : ¬ l < 0 := by omega
        simp [binOp_shl, Op.shift, h', eqGuard_shl]
      · rw [if_neg h] at e; cases e
    case shr =>
      simp only at e
      by_cases h : 0 ≤ l
      · rw [if_pos h] at e
        refine ⟨_, _, e, .int _ _, fun X Y w => ?_⟩
        have h' : ¬ l < 0 := by omega
        simp [binOp_shr, Op.shift, h', eqGuard_shr]
      · rw [if_neg h] at e; cases e
    all_goals
      simp only [] at e
      split at e
      · rename_i h
        subst h
        obtain ⟨v, z, h1, h2, h3⟩ := binInt_sound (A := A) (w := w) (n := n) (G := G) (P := P) e
        exact ⟨v, z, h1, h2, fun X Y w => by rw [eqGuard_at_int]; simpa using h3 _ w⟩
      · cases e
  · cases hx; cases hy
    obtain ⟨v, z, h1, h2, h3⟩ := binStr_sound (A := A) (w := w) (n := n) (G := G) (P := P) e
    exact ⟨v, z, h1, h2, fun X Y w => by rw [eqGuard_at_string]; simpa using h3 _ w⟩
  · cases hx; cases hy
    rename_i u v
    split at e
    · rename_i hk
      obtain ⟨d, hd, hf⟩ := tt_desc tt (t := ty) (by rw [hk]; simp)
      rw [hk] at hf
      cases d <;> simp only [TK.fits] at hf
      exact ⟨_, _, e, .bool _, fun X Y w => by rw [eqGuard_at_bool]; simpa using run_eql_bool hd u v w⟩
    · rename_i hk
      obtain ⟨d, hd, hf⟩ := tt_desc tt (t := ty) (by rw [hk]; simp)
      rw [hk] at hf
      cases d <;> simp only [TK.fits] at hf
      exact ⟨_, _, e, .bool _, fun X Y w => by rw [eqGuard_at_bool]; simpa using run_neq_bool hd u v w⟩
    · cases e
  · cases e

theorem pickK_sound {b : Bool} {x y : AV} {c d : Value} (e : pickK b x y k = some r) (hx : Rep A w n G x c) (hy : Rep A w n G y d) :
    ∃ v, k v = some r ∧ Rep A w n G v (if b then c else d) := by
  cases b
  · exact ⟨_, e, by simpa using hy⟩
  · exact ⟨_, e, by simpa using hx⟩

theorem unK_sound {op : UnOp} {x : AV} {a : Value} (e : unK op x k = some r) (hx : Rep A w n G x a) :
    ∃ v z, k v = some r ∧ Rep A w n G v z ∧ ∀ w : World, (Op.unary op a).run P w = .ok z w := by
  unfold unK at e
  split at e
  · cases hx; exact ⟨_, _, e, .bool _, fun w => by simp [Op.unary]⟩
  · cases hx; exact ⟨_, _, e, .int _ _, fun w => by simp [Op.unary, Op.intArith]⟩
  · cases hx; exact ⟨_, _, e, .int _ _, fun w => by simp [Op.unary, Op.intBits, bitsOp]⟩
  · cases e
end

end Go.Proofs.YtlbammfnkphajaaGreatDoor.Abs
