/- The log: what is written, and how. -/
import Derived.Test.YtiodpeekbeahlaaGreatDoorLogB
namespace Go.Proofs.YtiodpeekbeahlaaGreatDoor.Abs
open Go
set_option linter.unusedVariables false
attribute [-simp] List.getD_eq_getElem?_getD

theorem call_free {s : Sl} (h : s.1.2 = -1) : callS s = (((s.1.1 + 1, -1), s.2), 0) := by
  unfold callS
  rw [if_neg (by rw [h]; decide), if_neg (by rw [h]; decide), h]
theorem flush_free {s : Sl} (h : s.1.2 = -1) : flushS s = (((s.1.1 + 1, -1), imageS s.2.1 s.2.2, []), 0) := by
  unfold flushS
  rw [call_free h, if_pos rfl]

theorem wholeS_id (b : Blk) (h : b.length = 128) : wholeS b = b := by
  unfold wholeS
  rw [List.take_of_length_le (by omega), h]
  simp
theorem wholeS_len (b : Blk) : (wholeS b).length = 128 := by
  unfold wholeS; simp; omega

/-! ### Changes made -/

def looS (es : Loo) (ch : List (Int × Blk)) : Loo := ch.foldl (fun es x => mp es x.1 x.2) es
def putS (xs : List Blk) (ch : List (Int × Blk)) : List Blk := ch.foldl (fun xs x => xs.set x.1.toNat x.2) xs

theorem putS_len (ch : List (Int × Blk)) : ∀ xs : List Blk, (putS xs ch).length = xs.length := by
  induction ch with
  | nil => intro xs; rfl
  | cons x ch ih => intro xs; unfold putS at ih ⊢; rw [List.foldl_cons, ih, List.length_set]

theorem mg_mp (i : Int) (b : Blk) (j : Int) : ∀ es : Loo, mg (mp es i b) j = if j = i then some b else mg es j
  | [] => by
    rw [show mp [] i b = [(i, b)] from rfl, mg_cons]
  | e :: es => by
    rw [mp_cons]
    by_cases h : i = e.1
    · rw [if_pos h, mg_cons, mg_cons]
      by_cases h2 : j = i
      · rw [if_pos h2, if_pos h2]
      · rw [if_neg h2, if_neg h2, if_neg (by rw [← h]; exact h2)]
    · rw [if_neg h, mg_cons, mg_cons, mg_mp i b j es]
      by_cases h2 : j = e.1
      · rw [if_pos h2, if_pos h2, if_neg (by rw [h2]; exact fun q => h q.symm)]
      · rw [if_neg h2, if_neg h2]

theorem image_mp (xs : List Blk) (es : Loo) (i : Int) (b : Blk) (hi : 0 ≤ i) : imageS xs (mp es i b) = (imageS xs es).set i.toNat b := by
  refine List.ext_getElem (by simp [image_len]) fun j h1 h2 => ?_
  have hj : j < xs.length := by rw [image_len] at h1; exact h1
  have e1 := image_at xs (mp es i b) j hj
  have e2 := image_at xs es j hj
  rw [getD_lt h1, mg_mp] at e1
  rw [getD_lt (by rw [image_len]; exact hj)] at e2
  rw [e1, List.getElem_set]
  by_cases h : i.toNat = j
  · rw [if_pos (by omega), if_pos h]; rfl
  · rw [if_neg (by omega), if_neg h, e2]

theorem image_loo (xs : List Blk) (ch : List (Int × Blk)) : ∀ (es : Loo), (∀ x ∈ ch, 0 ≤ x.1) → imageS xs (looS es ch) = putS (imageS xs es) ch := by
  induction ch with
  | nil => intro es _; rfl
  | cons x ch ih =>
    intro es h
    unfold looS putS at ih ⊢
    rw [List.foldl_cons, List.foldl_cons, ih _ (fun y hy => h y (List.mem_cons_of_mem _ hy)), image_mp _ _ _ _ (h x List.mem_cons_self)]

/-- Changes that fit n blocks. -/
def fits (n : Nat) (ch : List (Int × Blk)) : Prop := ∀ x ∈ ch, 0 ≤ x.1 ∧ x.1 < (n : Int) ∧ x.2.length = 128

theorem write_fits {n m : Nat} {c : Int} {xs : List Blk} {es : Loo} (h : Okay n m ((c, -1), xs, es)) (hm : m < 100000) {x : Int × Blk} (hx : 0 ≤ x.1 ∧ x.1 < (n : Int) ∧ x.2.length = 128) :
    slab_Slab_Write (((c, -1), xs, es), x.1, x.2) = some (((c + 1, -1), xs, mp es x.1 x.2), 0) ∧ Okay n (m + 1) ((c + 1, -1), xs, mp es x.1 x.2) := by
  obtain ⟨h1, h2⟩ := h.write hm x.1 x.2
  have hf := h.firm
  simp only at hf
  have e : writeS ((c, -1), xs, es) x.1 x.2 = (((c + 1, -1), xs, mp es x.1 x.2), 0) := by
    unfold writeS
    rw [call_free rfl, if_neg (by simp)]
    simp only
    rw [if_pos ⟨hx.1, by rw [hf]; exact hx.2.1, by omega⟩, wholeS_id _ hx.2.2]
  rw [e] at h1 h2
  exact ⟨h1, h2⟩

theorem take_loo (ch : List (Int × Blk)) (i : Nat) (hi : i < ch.length) : looS [] (ch.take (i + 1)) = mp (looS [] (ch.take i)) (ch.getD i (0, [])).1 (ch.getD i (0, [])).2 := by
  rw [take_succ_getD hi (0, [])]
  unfold looS
  rw [List.foldl_append]
  rfl

theorem log_write {n m : Nat} {p : Bool × Int} {c : Int} {xs : List Blk} (h : Okay n m ((c, -1), xs, [])) {ch : List (Int × Blk)} (hf : fits n ch) (hm : m + ch.length + 1 ≤ 100000) :
    log_Log_write ((p, (c, -1), xs, []), ch) = some ((p, (c + ch.length + 1, -1), putS xs ch, []), 0) ∧ Okay n (m + ch.length + 1) ((c + ch.length + 1, -1), putS xs ch, []) := by
  have hx : ∀ i, i < ch.length → 0 ≤ (ch.getD i (0, [])).1 ∧ (ch.getD i (0, [])).1 < (n : Int) ∧ (ch.getD i (0, [])).2.length = 128 := fun i hi => by
    rw [getD_lt hi]; exact hf _ (List.getElem_mem hi)
  have ok : ∀ i, i ≤ ch.length → Okay n (m + i) ((c + i, -1), xs, looS [] (ch.take i)) := by
    intro i
    induction i with
    | zero => intro _; rw [List.take_zero]; simpa [looS] using h
    | succ i ih =>
      intro hi
      have := (write_fits (ih (by omega)) (by omega) (hx i (by omega))).2
      rw [take_loo ch i (by omega)]
      have e : c + (i : Int) + 1 = c + ((i + 1 : Nat) : Int) := by omega
      rw [← e]; exact this
  have hl := ok ch.length (Nat.le_refl _)
  rw [List.take_length] at hl
  have := loop_run (f := log_Log_write.l1) (fun i => ((p, (c + i, -1), xs, looS [] (ch.take i)), ch, (ch.length : Int), (i : Int))) (n := ch.length) (r := .inl (p, (c + ch.length, -1), xs, looS [] ch)) (fun i hi => by
    have hw := (write_fits (ok i (by omega)) (by omega) (hx i hi)).1
    unfold log_Log_write.l1
    obtain ⟨p1, p2⟩ := p
    simp only
    rw [if_pos (by simpa using hi), if_pos (by omega), getD_nat, hw, Option.bind_some]
    simp only
    rw [if_neg (by decide), wrap_succ (by omega), take_loo ch i hi]
    have e : c + (i : Int) + 1 = c + ((i + 1 : Nat) : Int) := by omega
    rw [e]) (by
    unfold log_Log_write.l1
    obtain ⟨p1, p2⟩ := p
    simp only
    rw [if_neg (by simp), List.take_length])
  obtain ⟨f1, f2⟩ := hl.flush (by omega)
  have ef := flush_free (s := ((c + (ch.length : Int), -1), xs, looS [] ch)) rfl
  simp only at ef
  rw [image_loo xs ch [] (fun x hx => (hf x hx).1), image_nil] at ef
  rw [ef] at f1 f2
  refine ⟨?_, f2⟩
  unfold log_Log_write
  obtain ⟨p1, p2⟩ := p
  simp only
  have e0 : ((((p1, p2), (c, -1), xs, []), ch, (ch.length : Int), (0 : Int)) : ((Bool × Int) × (Int × Int) × List Blk × Loo) × List (Int × Blk) × Int × Int) = (((p1, p2), (c + ((0 : Nat) : Int), -1), xs, looS [] (ch.take 0)), ch, (ch.length : Int), ((0 : Nat) : Int)) := by simp [looS]
  rw [e0, this, Option.bind_some]
  simp only
  rw [f1, Option.bind_some]

/-! ### The head -/

def headS (bs : List Int) : Blk := (UInt8.ofNat bs.length :: bs.flatMap le2) ++ List.replicate (128 - (1 + 2 * bs.length)) 0

theorem le2_len (bs : List Int) : (bs.flatMap le2).length = 2 * bs.length := by
  induction bs with
  | nil => rfl
  | cons a l ih => rw [List.flatMap_cons, List.length_append, ih]; simp [le2, le2I]; omega

theorem headS_len (bs : List Int) (h : bs.length ≤ 40) : (headS bs).length = 128 := by
  unfold headS
  rw [List.length_append, List.length_cons, le2_len, List.length_replicate]
  omega

theorem head_is (bs : List Int) (hl : bs.length ≤ 40) (h : ∀ b ∈ bs, 0 ≤ b ∧ b < 65536) : log_headOf bs = some [(1, headS bs)] := by
  unfold log_headOf
  rw [repeat2 _ hl, Option.bind_some, write2 bs hl h, Option.bind_some]
  have e : (([IntKind.u8.wrap (bs.length : Int)] : List Int).map fun (n : Int) => UInt8.ofNat n.toNat) = [UInt8.ofNat bs.length] := by
    rw [List.map_cons, List.map_nil]
    have : IntKind.u8.wrap (bs.length : Int) = (bs.length : Int) := by
      simp only [IntKind.wrap, IntKind.signed, IntKind.bits]
      simp
      omega
    rw [this, Int.toNat_natCast]
  simp only
  rw [e, if_pos (by rw [List.length_singleton, le2_len]; omega)]
  rw [pad_is _ (by rw [List.length_append, List.length_singleton, le2_len]; omega), Option.bind_some]
  simp only [Option.some.injEq, List.cons.injEq, and_true, Prod.mk.injEq, true_and]
  unfold headS
  rw [List.length_append, List.length_singleton, le2_len]
  rfl

theorem head_nil : headS [] = List.replicate 128 0 := rfl

/-! ### Applying -/

def zeroS : Blk := List.replicate 128 0

theorem fits_head {n : Nat} (hn : 2 ≤ n) (bs : List Int) (hl : bs.length ≤ 40) : fits n [(1, headS bs)] := fun x hx => by
  rw [List.mem_singleton] at hx
  subst hx
  exact ⟨by simp, by simp only; omega, headS_len bs hl⟩

theorem log_apply {n m : Nat} {p : Bool × Int} {c : Int} {xs : List Blk} (h : Okay n m ((c, -1), xs, [])) (hn : 2 ≤ n) {ch : List (Int × Blk)} (hf : fits n ch) (hm : m + ch.length + 3 ≤ 100000) :
    log_Log_apply ((p, (c, -1), xs, []), ch) = some ((p, (c + ch.length + 3, -1), (putS xs ch).set 1 zeroS, []), 0) ∧ Okay n (m + ch.length + 3) ((c + ch.length + 3, -1), (putS xs ch).set 1 zeroS, []) := by
  obtain ⟨w1, o1⟩ := log_write (p := p) h hf (by omega)
  obtain ⟨w2, o2⟩ := log_write (p := p) o1 (fits_head hn [] (by simp)) (by simp; omega)
  have e3 : c + (ch.length : Int) + 1 + (([(1, headS [])] : List (Int × Blk)).length : Int) + 1 = c + ch.length + 3 := by simp; omega
  have e4 : m + ch.length + 1 + ([(1, headS [])] : List (Int × Blk)).length + 1 = m + ch.length + 3 := by simp
  have e5 : putS (putS xs ch) [(1, headS [])] = (putS xs ch).set 1 zeroS := rfl
  rw [e3, e5] at w2 o2
  rw [e4] at o2
  refine ⟨?_, o2⟩
  obtain ⟨p1, p2⟩ := p
  unfold log_Log_apply log_all
  simp only
  unfold log_Log_apply_1
  simp only
  rw [w1, Option.bind_some]
  simp only
  rw [Option.bind_some]
  simp only
  rw [if_neg (by decide)]
  unfold log_Log_apply_2
  simp only
  rw [head_is [] (by simp) (fun b hb => by cases hb), Option.bind_some, w2, Option.bind_some]
  simp only
  rw [Option.bind_some]
  simp only
  rw [if_neg (by decide), Option.bind_some]
end Go.Proofs.YtiodpeekbeahlaaGreatDoor.Abs
