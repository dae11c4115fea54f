/- Cards: what the document writes; what is read. Cards: what is read. -/
import Derived.Test.YtiodpeekbeahlaaGreatDoorDlE
namespace Go.Proofs.YtiodpeekbeahlaaGreatDoor.Abs
open Go
set_option linter.unusedVariables false
attribute [-simp] List.getD_eq_getElem?_getD

theorem refAll_loop (c1 c2 c3 c4 : Int) (c5 : List Int) (c6 c7 : Int) (c8 : List Sp) (c9 : Int) (hl : c5.length < 1099511627776) :
    loopO rf09_Right.l1 ((c1, c2, c3, c4, c5, c6, c7, c8, c9), 0) = some (if c5.all smallI = true then .inl (c1, c2, c3, c4, c5, c6, c7, c8, c9) else .inr false) := by
  obtain ⟨j, _, hj, hb, hs, hrun⟩ := loop_first (f := rf09_Right.l1) (fun k => ((c1, c2, c3, c4, c5, c6, c7, c8, c9), (k : Int))) (fun k => !smallI (c5.getD k 0)) (n := c5.length)
    (r := fun k => if k < c5.length then .inr false else .inl (c1, c2, c3, c4, c5, c6, c7, c8, c9)) c5.length 0 (by omega) (fun k _ hk => by
      unfold rf09_Right.l1
      dsimp only
      rw [if_pos (by simp; omega), if_pos (by omega), Int.toNat_natCast, refSmall_is, Option.bind_some, if_pos hk, wrap_succ (by omega)]) (by
      unfold rf09_Right.l1
      dsimp only
      rw [if_neg (by simp), if_neg (by omega)])
  have hrun : loopO rf09_Right.l1 ((c1, c2, c3, c4, c5, c6, c7, c8, c9), 0) = _ := hrun
  rw [hrun]
  by_cases hjl : j < c5.length
  · rw [if_pos hjl]
    have h1 := hs hjl
    have : c5.all smallI = false := by
      rw [List.all_eq_false]
      refine ⟨c5[j], List.getElem_mem hjl, ?_⟩
      rw [getD_get hjl] at h1
      simpa using h1
    rw [this]
    rfl
  · rw [if_neg hjl]
    have : c5.all smallI = true := by
      rw [List.all_eq_true]
      intro x hx
      obtain ⟨i, hi, rfl⟩ := List.getElem_of_mem hx
      have := hb i (Nat.zero_le _) (by omega)
      rw [getD_get hi] at this
      simpa using this
    rw [this]
    rfl

theorem lenEq (n k : Nat) : (((n : Nat) : Int) == (k : Int)) = decide (n = k) := by
  rw [Bool.eq_iff_iff]; simp; omega

theorem refRight_c (c : Card) (h : lenC c) : rf09_Right c = some (rightC c) := by
  have hs := refCSame_is c zeroC h
  obtain ⟨c1, c2, c3, c4, c5, c6, c7, c8, c9⟩ := c
  obtain ⟨h1, h2⟩ := h
  simp only at h1 h2
  unfold rf09_Right
  dsimp only
  have hs : rf09_Same ((c1, c2, c3, c4, c5, c6, c7, c8, c9), 0, 0, 0, 0, ([] : List Int), 0, 0, ([] : List (Int × Int × Int)), 0) = some (decide ((c1, c2, c3, c4, c5, c6, c7, c8, c9) = zeroC)) := hs
  rw [hs, Option.bind_some]
  unfold rightC
  dsimp only
  generalize decide ((c1, c2, c3, c4, c5, c6, c7, c8, c9) = zeroC) = z
  cases z
  case true => simp
  rw [if_neg (by simp), Bool.false_or]
  by_cases hd : (c2 = 1 ∨ c2 = 2) ∧ 1 ≤ c3 ∧ c3 ≤ 200 ∧ 0 ≤ c4
  · obtain ⟨hk, k1, k2, k3⟩ := hd
    have hk' : headC (c1, c2, c3, c4, c5, c6, c7, c8, c9) 9728 = decide (c4 ≤ 9728) := by simp [headC, hk, k1, k2, k3]
    have hk2 : headC (c1, c2, c3, c4, c5, c6, c7, c8, c9) 15360 = decide (c4 ≤ 15360) := by simp [headC, hk, k1, k2, k3]
    have e1 : decide (c3 < 1) = false := by simp; omega
    have e2 : decide (c3 > 200) = false := by simp; omega
    have e3 : decide (c4 < 0) = false := by simp; omega
    have e5 : (c2 != 2) = false ∨ (c2 != 1) = false := by
      rcases hk with h | h <;> simp [h]
    rw [e1, e2, e3, hk', hk2]
    have tail : ∀ {α : Type} (x : Option α) (y : Option α), (if (c2 != 1) = true then if (c2 != 2) = false then x else y else x) = x := by
      intro α x y
      rcases e5 with h | h
      · rw [if_pos h]; split <;> rfl
      · rw [if_neg (by rw [h]; simp)]
    rw [if_pos rfl, if_pos rfl, if_neg (show ¬ (false = true) by decide), tail, Option.bind_some]
    dsimp only
    have l4 := lenEq c5.length 4
    have l0 := lenEq c5.length 0
    have m0 := lenEq c8.length 0
    have m3 := lenEq c8.length 3
    rw [show ((4 : Nat) : Int) = 4 from rfl] at l4
    rw [show ((0 : Nat) : Int) = 0 from rfl] at l0 m0
    rw [show ((3 : Nat) : Int) = 3 from rfl] at m3
    by_cases q1 : c1 = 1
    · subst q1
      rw [if_pos (by decide), refAll_loop _ _ _ _ _ _ _ _ _ h1, Option.bind_some]
      rw [List.all_append]
      cases c5.all smallI
      · simp
      · rw [if_pos rfl]
        dsimp only
        rw [l4, m0, refSmall_is, refSmall_is]
        simp only [List.all_cons, List.all_nil, Option.bind_some]
        by_cases p4 : c9 = 0
        · subst p4
          have : smallI 0 = true := rfl
          rw [this]
          generalize smallI c6 = u
          generalize smallI c7 = v
          by_cases p1 : c4 ≤ 9728 <;> by_cases p2 : c5.length = 4 <;> by_cases p3 : c8.length = 0 <;> cases u <;> cases v <;> simp [p1, p2, p3]
        · generalize smallI c6 = u
          generalize smallI c7 = v
          by_cases p1 : c4 ≤ 9728 <;> by_cases p2 : c5.length = 4 <;> by_cases p3 : c8.length = 0 <;> cases u <;> cases v <;> simp [p1, p2, p3, p4]
    · rw [if_neg (by simpa using q1)]
      by_cases q2 : c1 = 2
      · subst q2
        have l3 : decide ((c8.length : Int) ≤ 3) = decide (c8.length ≤ 3) := decide_eq_decide.2 (by omega)
        rw [if_pos (by decide), l0, m3, l3, refRightSp_is _ h2, refSmall_is]
        simp only [Option.bind_some]
        by_cases p2 : c5.length = 0
        · have : c5 = [] := List.eq_nil_of_length_eq_zero p2
          subst this
          by_cases p6 : c6 = 0
          · subst p6
            by_cases p7 : c7 = 0
            · subst p7
              have : smallI 0 = true := rfl
              simp only [List.nil_append, List.all_cons, List.all_nil, this]
              have e9 : (c9 == 0) = decide (c9 = 0) := by rw [Bool.eq_iff_iff]; simp
              rw [e9]
              generalize smallI c9 = u
              generalize rightSp c8 = v
              by_cases p1 : c4 ≤ 15360 <;> by_cases p3 : c8.length ≤ 3 <;> by_cases p4 : c9 = 0 <;> cases u <;> cases v <;> simp [p1, p3, p4]
            · simp [p7]
          · simp [p6]
        · simp [p2]
      · rw [if_neg (by simpa using q2)]
        simp [q1, q2]
  · have f1 : headC (c1, c2, c3, c4, c5, c6, c7, c8, c9) 9728 = false := by
      unfold headC; rw [decide_eq_false_iff_not]; dsimp only; omega
    have f2 : headC (c1, c2, c3, c4, c5, c6, c7, c8, c9) 15360 = false := by
      unfold headC; rw [decide_eq_false_iff_not]; dsimp only; omega
    rw [f1, f2]
    have hR : ((c5 ++ [c6, c7, c9]).all smallI && (c1 == 1 && (false && decide (c5.length = 4 ∧ c8.length = 0 ∧ c9 = 0)) || c1 == 2 && (false && (decide (c8.length ≤ 3) && rightSp c8 && (c9 == 0 || decide (c8.length = 3))) && decide (c5.length = 0 ∧ c6 = 0 ∧ c7 = 0)))) = false := by simp
    rw [hR]
    by_cases p1 : c2 = 1
    · rw [if_neg (by simp [p1])]
      by_cases p3 : c3 < 1
      · rw [if_neg (by simp; omega)]; rfl
      · rw [if_pos (by simp; omega)]
        by_cases p4 : c3 > 200
        · rw [if_neg (by simp; omega)]; rfl
        · rw [if_pos (by simp; omega), if_pos (by simp; omega)]; rfl
    · rw [if_pos (by simpa using p1)]
      by_cases p2 : c2 = 2
      · rw [if_pos (by simpa using p2)]
        by_cases p3 : c3 < 1
        · rw [if_neg (by simp; omega)]; rfl
        · rw [if_pos (by simp; omega)]
          by_cases p4 : c3 > 200
          · rw [if_neg (by simp; omega)]; rfl
          · rw [if_pos (by simp; omega), if_pos (by simp; omega)]; rfl
      · rw [if_neg (by simpa using p2)]; rfl

theorem refZeros (n : Nat) (h : n ≤ 1000) : rf01_Zeros (n : Int) = some (List.replicate n 0) := by
  unfold rf01_Zeros
  rw [if_pos ⟨by omega, by omega, by omega, by omega⟩, List.map_replicate, Int.toNat_natCast]
  rfl

theorem refWrite_c (c : Card) (h : lenC c) : rf09_Write c = some (wrC c) := by
  have hr := refRight_c c h
  unfold rf09_Write wrC
  dsimp only
  have hr : rf09_Right (c.1, c.2.1, c.2.2.1, c.2.2.2.1, c.2.2.2.2.1, c.2.2.2.2.2.1, c.2.2.2.2.2.2.1, c.2.2.2.2.2.2.2.1, c.2.2.2.2.2.2.2.2) = some (rightC c) := hr
  rw [hr, Option.bind_some]
  cases hrc : rightC c with
  | false => rw [if_pos (by decide), if_neg (by decide)]
  | true =>
    rw [if_neg (by decide), if_pos rfl]
    have hbl := bytesC_len hrc
    have hz32 : ∀ s : List UInt8, s.length ≤ 32 → ((rf01_Zeros (IntKind.i64.wrap (32 - (s.length : Int)))).bind fun r88 => if s.length + r88.length ≤ 9223372036854775807 then some (s ++ r88, (0 : Int)) else none) = some (padC s, 0) := fun s hs => by
      rw [wrap64 (by omega) (by omega), show 32 - (s.length : Int) = ((32 - s.length : Nat) : Int) by omega, refZeros _ (by omega), Option.bind_some, if_pos (by simp; omega)]
      rfl
    by_cases hz : c = zeroC
    · subst hz
      have := hz32 [] (by simp)
      unfold bytesC
      rw [if_pos rfl]
      exact this
    · have hf0 : ¬ c.1 = 0 := by
        by_cases hf : c.1 = 1
        · omega
        · have := (right_2 hrc hz hf).1; omega
      rw [if_pos (by simpa using hf0)]
      by_cases hf : c.1 = 1
      · obtain ⟨hfit, p, q, r, s, h5⟩ := right_1 hrc hz hf
        have hb : bytesC c = encT ws1 (vs1 c) := by rw [bytesC, if_neg hz, if_pos hf]
        have hlen := encT_len _ _ hfit
        rw [hb] at hbl ⊢
        obtain ⟨c1, c2, c3, c4, c5, c6, c7, c8, c9⟩ := c
        dsimp only at h5 hf ⊢
        subst h5 hf
        simp only [ws1, vs1, List.cons_append, List.nil_append, fitW, Bool.and_eq_true] at hfit
        obtain ⟨f1, f2, f3, f4, f5, f6, f7, f8, f9, f10, _⟩ := hfit
        rw [bytes_is 1 [1, c2] rfl (by simp) (by simp only [List.length_cons, List.length_nil, List.replicate, fitW, f1, f2]; rfl), Option.bind_some,
          bytes_is 2 [c3] rfl (by simp) (by simp only [List.length_cons, List.length_nil, List.replicate, fitW, f3]; rfl), Option.bind_some, if_pos (by simp [encT, u8s_len, le_len]),
          bytes_is 4 [c4] rfl (by simp) (by simp only [List.length_cons, List.length_nil, List.replicate, fitW, f4]; rfl), Option.bind_some, if_pos (by simp [encT, u8s_len, le_len]), Option.bind_some]
        dsimp only
        rw [if_pos (by decide), bytes_is 2 [p, q, r, s] rfl (by simp) (by simp only [List.length_cons, List.length_nil, List.replicate, fitW, f5, f6, f7, f8]; rfl), Option.bind_some,
          bytes_is 2 [c6, c7] rfl (by simp) (by simp only [List.length_cons, List.length_nil, List.replicate, fitW, f9, f10]; rfl), Option.bind_some, if_pos (by simp [encT, u8s_len, le_len]), if_pos (by simp [encT, u8s_len, le_len]), Option.bind_some]
        dsimp only
        rw [if_neg (by decide), Option.bind_some]
        have he : encT (List.replicate [1, c2].length 1) [1, c2] ++ encT (List.replicate [c3].length 2) [c3] ++ encT (List.replicate [c4].length 4) [c4] ++ (encT (List.replicate [p, q, r, s].length 2) [p, q, r, s] ++ encT (List.replicate [c6, c7].length 2) [c6, c7]) = encT ws1 (vs1 (1, c2, c3, c4, [p, q, r, s], c6, c7, c8, c9)) := by
          simp [ws1, vs1, encT, List.replicate]
        rw [he]
        exact hz32 _ hbl
      · obtain ⟨h2, hfit, hrs, h83⟩ := right_2 hrc hz hf
        have hb : bytesC c = encT ws2 (vs2 c) := by rw [bytesC, if_neg hz, if_neg hf]
        have hlen := encT_len _ _ hfit
        rw [hb] at hbl ⊢
        obtain ⟨c1, c2, c3, c4, c5, c6, c7, c8, c9⟩ := c
        dsimp only at h2 hf hrs h83 ⊢
        subst h2
        have e3 : List.range 3 = [0, 1, 2] := rfl
        simp only [ws2, vs2, spC, e3, List.flatMap_cons, List.flatMap_nil, spV, List.cons_append, List.nil_append, fitW, Bool.and_eq_true] at hfit
        obtain ⟨f1, f2, f3, f4, f5, _, _, _, _, _, _, _, _, _, f15, _⟩ := hfit
        rw [bytes_is 1 [2, c2] rfl (by simp) (by simp only [List.length_cons, List.length_nil, List.replicate, fitW, f1, f2]; rfl), Option.bind_some,
          bytes_is 2 [c3] rfl (by simp) (by simp only [List.length_cons, List.length_nil, List.replicate, fitW, f3]; rfl), Option.bind_some, if_pos (by simp [encT, u8s_len, le_len]),
          bytes_is 4 [c4] rfl (by simp) (by simp only [List.length_cons, List.length_nil, List.replicate, fitW, f4]; rfl), Option.bind_some, if_pos (by simp [encT, u8s_len, le_len]), Option.bind_some]
        dsimp only
        rw [if_neg (by decide), Option.bind_some]
        dsimp only
        rw [if_pos (by decide), bytes_is 1 [(c8.length : Int)] rfl (by simp) (by simp only [List.length_cons, List.length_nil, List.replicate, fitW, f5]; rfl), Option.bind_some, if_pos (by simp [encT, u8s_len, le_len])]
        have e6 : ∀ i, (encT [2, 2, 2] (spV (c8.getD i sp0))).length = 6 := fun i => by simp [spV, encT, u8s_len, le_len]
        have hfl : ∀ i, i ≤ 3 → ((List.range i).flatMap (fun i => encT [2, 2, 2] (spV (c8.getD i sp0)))).length ≤ 18 := fun i hi => by
          have : ∀ i, ((List.range i).flatMap (fun i => encT [2, 2, 2] (spV (c8.getD i sp0)))).length = 6 * i := fun i => by
            induction i with
            | zero => rfl
            | succ i ih => rw [List.range_succ, List.flatMap_append, List.length_append, ih]; simp only [List.flatMap_cons, List.flatMap_nil, List.append_nil, e6]; omega
          rw [this]; omega
        generalize hpre : encT (List.replicate [2, c2].length 1) [2, c2] ++ encT (List.replicate [c3].length 2) [c3] ++ encT (List.replicate [c4].length 4) [c4] ++ encT (List.replicate [(c8.length : Int)].length 1) [(c8.length : Int)] = pre
        have hprel : pre.length = 9 := by rw [← hpre]; simp [encT, u8s_len, le_len]
        have hloop := loop_run (f := rf09_Write.l1) (fun i => ((2, c2, c3, c4, c5, c6, c7, c8, c9), pre ++ (List.range i).flatMap (fun i => encT [2, 2, 2] (spV (c8.getD i sp0))), (i : Int))) (n := 3)
          (r := ((2, c2, c3, c4, c5, c6, c7, c8, c9), pre ++ (List.range 3).flatMap (fun i => encT [2, 2, 2] (spV (c8.getD i sp0))))) (fun i hi => by
          have hb := sp_bounds hrs i
          have hlf := hfl i (by omega)
          have hby := bytes_is 2 (spV (c8.getD i sp0)) rfl (by simp [spV]) (by
            simp only [spV, List.length_cons, List.length_nil, List.replicate, fitW, lim, Bool.and_eq_true, decide_eq_true_eq]
            refine ⟨?_, ?_, ?_, trivial⟩ <;> simp <;> omega)
          have hrep : List.replicate (spV (c8.getD i sp0)).length (2 : Int) = [2, 2, 2] := rfl
          rw [hrep] at hby
          unfold rf09_Write.l1
          dsimp only
          rw [if_pos (by simp; omega)]
          have hst : (if decide ((i : Int) < (c8.length : Int)) = true then if 0 ≤ (i : Int) ∧ (i : Int) < (c8.length : Int) then some ((((2, c2, c3, c4, c5, c6, c7, c8, c9), (c8.getD (i : Int).toNat (0, (0, 0))).1, ((c8.getD (i : Int).toNat (0, (0, 0))).2).1, ((c8.getD (i : Int).toNat (0, (0, 0))).2).2), pre ++ (List.range i).flatMap (fun i => encT [2, 2, 2] (spV (c8.getD i sp0))), (i : Int))) else none else some ((((2, c2, c3, c4, c5, c6, c7, c8, c9), 0, 0, 0), pre ++ (List.range i).flatMap (fun i => encT [2, 2, 2] (spV (c8.getD i sp0))), (i : Int))) : Option ((Card × Int × Int × Int) × List UInt8 × Int)) = some (((2, c2, c3, c4, c5, c6, c7, c8, c9), c8.getD i sp0), pre ++ (List.range i).flatMap (fun i => encT [2, 2, 2] (spV (c8.getD i sp0))), (i : Int)) := by
            by_cases hlt : i < c8.length
            · rw [if_pos (by simp; omega), if_pos (by omega), Int.toNat_natCast]
              rfl
            · rw [if_neg (by simp; omega), show c8.getD i sp0 = sp0 by simp [List.getD, hlt]]
              rfl
          rw [hst, Option.bind_some]
          have hby : rf09_bytes (2, [(c8.getD i sp0).1, (c8.getD i sp0).2.1, (c8.getD i sp0).2.2]) = _ := hby
          dsimp only
          rw [hby, Option.bind_some, if_pos (by rw [List.length_append, e6]; omega), wrap_succ (by omega), List.range_succ, List.flatMap_append, List.append_assoc]
          simp) (by
          unfold rf09_Write.l1
          dsimp only
          rw [if_neg (by decide)])
        rw [List.range_zero, List.flatMap_nil, List.append_nil] at hloop
        change loopO rf09_Write.l1 ((2, c2, c3, c4, c5, c6, c7, c8, c9), pre, 0) = _ at hloop
        rw [hloop, Option.bind_some]
        dsimp only
        have hl3 := hfl 3 (by omega)
        rw [bytes_is 2 [c9] rfl (by simp) (by simp only [List.length_cons, List.length_nil, List.replicate, fitW, f15]; rfl), Option.bind_some, if_pos (by
          rw [List.length_append, hprel]
          have : (encT (List.replicate [c9].length 2) [c9]).length = 2 := by simp [encT, u8s_len, le_len]
          omega), Option.bind_some]
        have he : pre ++ (List.range 3).flatMap (fun i => encT [2, 2, 2] (spV (c8.getD i sp0))) ++ encT (List.replicate [c9].length 2) [c9] = encT ws2 (vs2 (2, c2, c3, c4, c5, c6, c7, c8, c9)) := by
          rw [← hpre]
          simp [ws2, vs2, encT, List.replicate, spC, e3, spV]
        rw [he]
        exact hz32 _ hbl

end Go.Proofs.YtiodpeekbeahlaaGreatDoor.Abs

namespace Go.Proofs.YtiodpeekbeahlaaGreatDoor.Abs
open Go
set_option linter.unusedVariables false
attribute [-simp] List.getD_eq_getElem?_getD

theorem rdS_app : ∀ (a b : List Int) (s : List UInt8), rdS (a ++ b) s = rdS a s ++ rdS b (s.drop (a.map Int.toNat).sum)
  | [], b, s => by simp [rdS]
  | w :: a, b, s => by simp [rdS, rdS_app a b, List.drop_drop]

theorem rd_ok (ws : List Int) (s : List UInt8) (hok : ws.all okW = true) (h : ws.sum ≤ s.length) : rd ws s = (rdS ws s, 0) := by
  unfold rd
  rw [if_pos hok, if_neg (by omega)]

def val2 (s : List UInt8) (j w : Nat) : Int := (val ((s.drop j).take w) : Int)

/-- The numbers of a card of the second format, behind its head. -/
def numsC (s : List UInt8) : List Int := rdS [1, 2, 2, 2, 2, 2, 2, 2, 2, 2, 2] (s.drop 8)
def spR (n : List Int) (i : Nat) : Sp := (n.getD (1 + 3 * i) 0, n.getD (2 + 3 * i) 0, n.getD (3 + 3 * i) 0)
def cardOf (s : List UInt8) : Card :=
  let h := rdS [1, 1, 2, 4] s
  if h.getD 0 0 = 1 then
    let n := rdS [2, 2, 2, 2, 2, 2] (s.drop 8)
    (h.getD 0 0, h.getD 1 0, h.getD 2 0, h.getD 3 0, n.take 4, n.getD 4 0, n.getD 5 0, [], 0)
  else if h.getD 0 0 = 2 then
    let n := numsC s
    (h.getD 0 0, h.getD 1 0, h.getD 2 0, h.getD 3 0, [], 0, 0, (List.range (min 3 (n.getD 0 0).toNat)).map (spR n), n.getD 10 0)
  else zeroC
def rdC (s : List UInt8) : Card × Int := if s.length = 32 ∧ rightC (cardOf s) = true ∧ (wrC (cardOf s)).1 = s then (cardOf s, 0) else (zeroC, 15)

theorem four (l : List Int) (h : l.length = 4) : ∃ a b c d, l = [a, b, c, d] := by
  match l, h with
  | [a, b, c, d], _ => exact ⟨a, b, c, d, rfl⟩
theorem six (l : List Int) (h : l.length = 6) : ∃ a b c d e f, l = [a, b, c, d, e, f] := by
  match l, h with
  | [a, b, c, d, e, f], _ => exact ⟨a, b, c, d, e, f, rfl⟩
theorem eleven (l : List Int) (h : l.length = 11) : ∃ a b c d e f g i j k m, l = [a, b, c, d, e, f, g, i, j, k, m] := by
  match l, h with
  | [a, b, c, d, e, f, g, i, j, k, m], _ => exact ⟨a, b, c, d, e, f, g, i, j, k, m, rfl⟩

theorem card_one (h1 h2 h3 a b c d e f : Int) : cards_card [1, h1, h2, h3, a, b, c, d, e, f] = some (1, h1, h2, h3, [a, b, c, d], e, f, [], 0) := by
  have hc : slices_Clone_int_int [a, b, c, d] = some [a, b, c, d] := by
    unfold slices_Clone_int_int
    rw [if_neg (by simp), if_pos (room (by decide) (by simp))]
    rfl
  unfold cards_card
  rw [if_pos (by simp), if_pos (by simp), if_pos (by simp), if_pos (by simp), if_pos (by simp), if_pos (by rfl), if_pos (by simp)]
  rw [show (([1, h1, h2, h3, a, b, c, d, e, f] : List Int).drop 4).take 4 = [a, b, c, d] from rfl, hc, Option.bind_some, if_pos (by simp), if_pos (by simp)]
  rfl

theorem min3 (n : Nat) : (if 3 < (n : Int) then 3 else (n : Int)) = ((min 3 n : Nat) : Int) := by
  by_cases h : 3 < (n : Int)
  · rw [if_pos h]; omega
  · rw [if_neg h]; omega

theorem card_two (h0 h1 h2 h3 : Int) (n : Nat) (a b c d e f g i j k : Int) (hh : h0 ≠ 1) :
    cards_card [h0, h1, h2, h3, (n : Int), a, b, c, d, e, f, g, i, j, k] = some (h0, h1, h2, h3, [], 0, 0, (List.range (min 3 n)).map (spR [(n : Int), a, b, c, d, e, f, g, i, j, k]), k) := by
  have r1 : ∀ m : Nat, m ≤ 10 → roomOk (m + 1) 24 := fun m hm => room (by decide) (by omega)
  unfold cards_card
  rw [if_pos (by simp), if_pos (by simp), if_pos (by simp), if_pos (by simp), if_pos (by simp), if_neg (by rw [show ([h0, h1, h2, h3, (n : Int), a, b, c, d, e, f, g, i, j, k] : List Int).getD 0 0 = h0 from rfl]; simpa using hh), if_pos (by simp)]
  rw [show ([h0, h1, h2, h3, (n : Int), a, b, c, d, e, f, g, i, j, k].drop 4) = [(n : Int), a, b, c, d, e, f, g, i, j, k] from rfl,
    show ([(n : Int), a, b, c, d, e, f, g, i, j, k].getD 0 0) = (n : Int) from rfl, min3]
  have hm : min 3 n ≤ 3 := by omega
  generalize min 3 n = m at hm
  have : m = 0 ∨ m = 1 ∨ m = 2 ∨ m = 3 := by omega
  have hw : IntKind.i64.wrap (1 + IntKind.i64.wrap (3 * (m : Int))) = ((1 + 3 * m : Nat) : Int) := by
    rw [wrap64 (n := 3 * (m : Int)) (by omega) (by omega), wrap64 (by omega) (by omega)]; omega
  rw [hw, if_pos (by simp; omega), Int.toNat_natCast]
  rcases this with rfl | rfl | rfl | rfl
  all_goals (show _ = _; kernel_rfl)

end Go.Proofs.YtiodpeekbeahlaaGreatDoor.Abs
