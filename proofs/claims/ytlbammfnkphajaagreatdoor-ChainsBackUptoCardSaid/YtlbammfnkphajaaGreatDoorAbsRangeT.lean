import Derived.Test.YtlbammfnkphajaaGreatDoorAbsRange
namespace Go.Proofs.YtlbammfnkphajaaGreatDoor.Abs
open Go
set_option linter.unusedVariables false
variable {TT : Nat → TI}

theorem opsK_ng {ρ : Type} {all : List Oper} {o : Oper} {os : List Oper} {st : St} {k : St → Option ρ} (h : o.guard = none) :
    opsK TT all (o :: os) [] st k = opK TT .std o.op st.sl st.ob fun v ob => opsK TT all os [] (({ st with ob := ob } : St).put o.dst v) k := by
  rw [opsK, h]
  rfl
theorem opsK_none {ρ : Type} {all : List Oper} {hs : List OA} {st : St} {k : St → Option ρ} : opsK TT all [] hs st k = k st := by rw [opsK]

/-- The function's slots between two rounds; behind a test; with a piece. -/
def cl (l : Nat) (T : Ty) (xs : List T.D) (n i : Int) : List AV :=
  [.fn (.yield l) [] [], .iptr (.sl T) xs 0, .iptr (.int .i64) n 0, .dead, .int .i64 i, .dead, .dead, .dead, .dead, .dead, .dead, .dead, .dead, .dead, .dead, .dead, .dead, .dead, .dead, .dead, .dead, .dead, .dead, .dead, .dead, .dead, .dead, .dead, .dead, .dead, .dead]

theorem chunk_r1 {tS tI tY tB e l : Nat} {T : Ty} {xs : List T.D} {n i : Int} (hS : (TT tS).kind = .sl e) (hI : (TT tI).kind = .int .i64) :
    opsK TT (chunkR1 tS tI tY tB) (chunkR1 tS tI tY tB) [] ⟨cl l T xs n i, []⟩ some =
      some ⟨((((cl l T xs n i).set 6 (.int .i64 i)).set 7 (.isl T xs)).set 8 (.int .i64 xs.length)).set 9 (.bool (decide (i < xs.length))), []⟩ := by
  simp [chunkR1, cl, opsK_ng, opsK_none, opK, OA.pre, OA.bare, St.frzAll, ev, St.put, loadK, loadCs, hS, TK.isOther, TK.isAgg, cellsAV, partAV, lenK, AV.fg, binK, binInt]

def cl1 (l : Nat) (T : Ty) (xs : List T.D) (m k : Nat) : List AV :=
  [.fn (.yield l) [] [], .iptr (.sl T) xs 0, .iptr (.int .i64) m 0, .dead, .int .i64 k, .dead, .int .i64 k, .isl T xs, .int .i64 xs.length, .bool true, .dead, .dead, .dead, .dead, .dead, .dead, .dead, .dead, .dead, .dead, .dead, .dead, .dead, .dead, .dead, .dead, .dead, .dead, .dead, .dead, .dead]

def cl3 (l : Nat) (T : Ty) (xs : List T.D) (m k : Nat) : List AV :=
  [.fn (.yield l) [] [], .iptr (.sl T) xs 0, .iptr (.int .i64) m 0, .dead, .int .i64 k, .int .i64 (min m (xs.length - k) : Nat), .int .i64 k, .isl T xs, .int .i64 xs.length, .bool true, .dead, .dead, .dead, .int .i64 m, .isl T xs, .int .i64 k, .isl T (xs.drop k), .int .i64 (xs.length - k : Nat), .int .i64 (min m (xs.length - k) : Nat), .dead, .dead, .dead, .dead, .dead, .dead, .dead, .dead, .dead, .dead, .dead, .dead]

def cl4 (l : Nat) (T : Ty) (xs : List T.D) (m k : Nat) : List AV :=
  [.fn (.yield l) [] [], .iptr (.sl T) xs 0, .iptr (.int .i64) m 0, .dead, .int .i64 k, .int .i64 (min m (xs.length - k) : Nat), .int .i64 k, .isl T xs, .int .i64 xs.length, .bool true, .dead, .dead, .dead, .int .i64 m, .isl T xs, .int .i64 k, .isl T (xs.drop k), .int .i64 (xs.length - k : Nat), .int .i64 (min m (xs.length - k) : Nat), .fn (.yield l) [] [], .isl T xs, .int .i64 k, .int .i64 k, .int .i64 (min m (xs.length - k) : Nat), .int .i64 (k + min m (xs.length - k) : Nat), .int .i64 k, .int .i64 (min m (xs.length - k) : Nat), .int .i64 (k + min m (xs.length - k) : Nat), .isl T ((xs.drop k).take m), .dead, .dead]

def cl5 (l : Nat) (T : Ty) (xs : List T.D) (m k : Nat) : List AV :=
  [.fn (.yield l) [] [], .iptr (.sl T) xs 0, .iptr (.int .i64) m 0, .dead, .int .i64 k, .int .i64 (min m (xs.length - k) : Nat), .int .i64 k, .isl T xs, .int .i64 xs.length, .bool true, .dead, .dead, .dead, .int .i64 m, .isl T xs, .int .i64 k, .isl T (xs.drop k), .int .i64 (xs.length - k : Nat), .int .i64 (min m (xs.length - k) : Nat), .fn (.yield l) [] [], .isl T xs, .int .i64 k, .int .i64 k, .int .i64 (min m (xs.length - k) : Nat), .int .i64 (k + min m (xs.length - k) : Nat), .int .i64 k, .int .i64 (min m (xs.length - k) : Nat), .int .i64 (k + min m (xs.length - k) : Nat), .isl T ((xs.drop k).take m), .bool true, .dead]

def cl6 (l : Nat) (T : Ty) (xs : List T.D) (m k : Nat) : List AV :=
  [.fn (.yield l) [] [], .iptr (.sl T) xs 0, .iptr (.int .i64) m 0, .dead, .int .i64 k, .int .i64 (min m (xs.length - k) : Nat), .int .i64 k, .isl T xs, .int .i64 xs.length, .bool true, .dead, .dead, .dead, .int .i64 m, .isl T xs, .int .i64 k, .isl T (xs.drop k), .int .i64 (xs.length - k : Nat), .int .i64 (min m (xs.length - k) : Nat), .fn (.yield l) [] [], .isl T xs, .int .i64 k, .int .i64 k, .int .i64 (min m (xs.length - k) : Nat), .int .i64 (k + min m (xs.length - k) : Nat), .int .i64 k, .int .i64 (min m (xs.length - k) : Nat), .int .i64 (k + min m (xs.length - k) : Nat), .isl T ((xs.drop k).take m), .bool true, .bool false]

def cl8 (l : Nat) (T : Ty) (xs : List T.D) (m k : Nat) : List AV :=
  [.fn (.yield l) [] [], .iptr (.sl T) xs 0, .iptr (.int .i64) m 0, .dead, .int .i64 (k + m : Nat), .dead, .dead, .dead, .dead, .dead, .int .i64 k, .int .i64 m, .int .i64 (k + m : Nat), .dead, .dead, .dead, .dead, .dead, .dead, .dead, .dead, .dead, .dead, .dead, .dead, .dead, .dead, .dead, .dead, .dead, .dead]

theorem wrap_fit {a : Nat} (h : a ≤ 9223372036854775807) : IntKind.i64.wrap (a : Int) = a := by
  unfold IntKind.wrap
  simp [IntKind.bits, IntKind.signed]
  omega

theorem chunk_r3 {tS tI tY tB e l : Nat} {T : Ty} {xs : List T.D} {m k : Nat} (hS : (TT tS).kind = .sl e) (hI : (TT tI).kind = .int .i64) (hz : (TT e).size = T.size ∧ (TT e).kind.isOther = false) (hk : k < xs.length) :
    opsK TT (chunkR3 tS tI tY tB) (chunkR3 tS tI tY tB) [] ⟨cl1 l T xs m k, []⟩ some = some ⟨cl3 l T xs m k, []⟩ := by
  have h1 : (0 : Int) ≤ k ∧ (k : Int) ≤ xs.length := by omega
  simp [chunkR3, cl1, cl3, opsK_ng, opsK_none, opK, OA.pre, St.frzAll, ev, St.put, loadK, loadCs, hS, hI, TK.isOther, TK.isAgg, cellsAV, partAV, lenK, AV.fg, sliceK, boundK, cut, mxK, mxK.go, hz, h1]
  refine ⟨hz.2, ?_⟩
  split <;> omega

theorem chunk_r4 {tS tI tY tB e l : Nat} {T : Ty} {xs : List T.D} {m k : Nat} (hS : (TT tS).kind = .sl e) (hI : (TT tI).kind = .int .i64) (hz : (TT e).size = T.size ∧ (TT e).kind.isOther = false) (hk : k < xs.length) (hlen : xs.length ≤ 9223372036854775807) (all : List Oper) :
    opsK TT all ((chunkR4 tS tI tY tB).take 10) [] ⟨cl3 l T xs m k, []⟩ some = some ⟨cl4 l T xs m k, []⟩ := by
  have h1 : IntKind.i64.wrap ((k : Int) + (min m (xs.length - k) : Nat)) = (k + min m (xs.length - k) : Nat) := by
    have := wrap_fit (a := k + min m (xs.length - k)) (by omega)
    rw [← this]; congr 1
  have h2 : (0 : Int) ≤ (k : Int) ∧ (k : Int) ≤ ((k + min m (xs.length - k) : Nat) : Int) ∧ ((k + min m (xs.length - k) : Nat) : Int) ≤ ((k + min m (xs.length - k) : Nat) : Int) ∧ ((k + min m (xs.length - k) : Nat) : Int) ≤ (xs.length : Int) := by omega
  have h3 : (xs.take ((k + min m (xs.length - k) : Nat) : Int).toNat).drop ((k : Int)).toNat = (xs.drop k).take m := by
    rw [Int.toNat_natCast, Int.toNat_natCast, List.drop_take, Nat.add_sub_cancel_left]
    rcases Nat.le_total m (xs.length - k) with h | h
    · rw [Nat.min_eq_left h]
    · rw [Nat.min_eq_right h, List.take_of_length_le (by simp), List.take_of_length_le (by simp; omega)]
  unfold cl3 cl4
  generalize hE : min m (xs.length - k) = E at *
  simp only [chunkR4, opsK, opK, OA.pre, OA.nns, nnV, OA.bare, St.frzAll, ev, St.put, loadK, loadCs, hS, TK.isOther, TK.isAgg, cellsAV, partAV, sliceK, AV.fg, slice3K, hz, List.take, List.headD, List.tail, List.set, List.getD_cons_succ, List.getD_cons_zero, binK, binInt, if_true, h1]
  simp only [Bool.false_eq_true, if_false, Option.map, ev, List.getD_cons_succ, List.getD_cons_zero]
  rw [if_pos (show 0 + 1 ≤ [AV.isl T xs].length from Nat.le_refl _)]
  have h4 : 0 ≤ (k : Int) ∧ (k : Int) ≤ ((k + E : Nat) : Int) ∧ ((k + E : Nat) : Int) ≤ ((k + E : Nat) : Int) ∧ ((k + E : Nat) : Int) ≤ (xs.length : Int) := h2
  rw [if_pos ⟨hz, h4⟩, h3]

/-- The function's slots as it begins. -/
def cl0 (l : Nat) (T : Ty) (xs : List T.D) (n : Int) : List AV := [.fn (.yield l) [] [], .iptr (.sl T) xs 0, .iptr (.int .i64) n 0] ++ List.replicate 28 .dead

theorem chunk_r0 {tS tI tY tB l : Nat} {T : Ty} {xs : List T.D} {n : Int} :
    opsK TT (chunkR0 tS tI tY tB) (chunkR0 tS tI tY tB) [] ⟨cl0 l T xs n, []⟩ some = some ⟨cl l T xs n 0, []⟩ := by
  simp [chunkR0, cl, cl0, opsK_ng, opsK_none, opK, OA.pre, St.frzAll, ev, St.put, constAV, List.replicate]

theorem chunk_not {tS tI tY tB l : Nat} {T : Ty} {xs : List T.D} {m k : Nat} (all : List Oper) :
    opsK TT all ((chunkR4 tS tI tY tB).drop 11) [] ⟨cl5 l T xs m k, []⟩ some = some ⟨cl6 l T xs m k, []⟩ := by
  simp [chunkR4, cl5, cl6, opsK_ng, opsK_none, opK, OA.pre, St.frzAll, ev, St.put, unK]

theorem chunk_r2 {tS tI tY tB l : Nat} {T : Ty} {xs : List T.D} {m k : Nat} (hI : (TT tI).kind = .int .i64) (hlen : k + m ≤ 9223372036854775807) :
    opsK TT (chunkR2 tS tI tY tB) (chunkR2 tS tI tY tB) [] ⟨cl l T xs m k, []⟩ some = some ⟨cl8 l T xs m k, []⟩ := by
  have h1 : IntKind.i64.wrap ((k : Int) + m) = (k + m : Nat) := by
    have := wrap_fit (a := k + m) hlen
    rw [← this]; congr 1
  simp [chunkR2, cl, cl8, opsK_ng, opsK_none, opK, OA.pre, OA.bare, St.frzAll, ev, St.put, loadK, loadCs, hI, TK.isOther, TK.isAgg, cellsAV, partAV, binK, binInt, h1]

/-- The call of yield. -/
def chunkY (tS tB : Nat) : Oper :=
  { dst := some 29, op := .call { callee := .value (.tmp 19), args := #[.tmp 28], argTypes := #[tS] }, type := tB, pos := "iter.go:109", after := #[{ on := 0, ground := .data }, { on := 9, ground := .data }], guard := none }

theorem chunk_cut (tS tI tY tB : Nat) : chunkR4 tS tI tY tB = (chunkR4 tS tI tY tB).take 10 ++ chunkY tS tB :: (chunkR4 tS tI tY tB).drop 11 := rfl

theorem cl5_eq {l : Nat} {T : Ty} {xs : List T.D} {m k : Nat} : (cl4 l T xs m k).set 29 (.bool true) = cl5 l T xs m k := rfl

theorem cl4_19 {l : Nat} {T : Ty} {xs : List T.D} {m k : Nat} : (cl4 l T xs m k).getD 19 .dead = .fn (.yield l) [] [] := rfl
theorem cl4_28 {l : Nat} {T : Ty} {xs : List T.D} {m k : Nat} : (cl4 l T xs m k).getD 28 .dead = .isl T ((xs.drop k).take m) := rfl
theorem cl6_30 {l : Nat} {T : Ty} {xs : List T.D} {m k : Nat} : (cl6 l T xs m k).getD 30 .dead = .bool false := rfl

theorem cl6_drop {l : Nat} {T : Ty} {xs : List T.D} {m k : Nat} : dropOk (cl6 l T xs m k) (cl l T xs m k) := by
  unfold cl6 cl
  repeat (first | exact trivial | refine ⟨.inl rfl, ?_⟩ | refine ⟨.inr rfl, ?_⟩)

theorem cl8_drop {l : Nat} {T : Ty} {xs : List T.D} {m k : Nat} : dropOk (cl8 l T xs m k) (cl l T xs m (k + m : Nat)) := by
  unfold cl8 cl
  repeat (first | exact trivial | refine ⟨.inl rfl, ?_⟩ | refine ⟨.inr rfl, ?_⟩)

end Go.Proofs.YtlbammfnkphajaaGreatDoor.Abs
