/- Cards: both readers read the same. -/
import Derived.Test.YtiodpeekbeahlaaGreatDoorDlK
namespace Go.Proofs.YtiodpeekbeahlaaGreatDoor.Abs
open Go
set_option linter.unusedVariables false
attribute [-simp] List.getD_eq_getElem?_getD

theorem head_first (s : List UInt8) : (rdS [1, 1, 2, 4] s).getD 0 0 = ((s.getD 0 0).toNat : Int) := by
  cases s with
  | nil => rfl
  | cons b r =>
    show (val ((b :: r).take (1 : Int).toNat) : Int) = _
    rw [show ((1 : Int)).toNat = 1 from rfl, List.take_succ_cons, List.take_zero]
    show ((b.toNat + 256 * 0 : Nat) : Int) = (b.toNat : Int)
    rw [Nat.mul_zero, Nat.add_zero]

theorem ans_c (s : List UInt8) (hs : s.length = 32) (c : Card) (h : lenD c) (hc : c = cardOf s) :
    ((cards_Write c).bind fun (r34, r34_2) => if (r34_2 != 0) = false then if (!(r34 == s)) = true then some ((zC, 15) : Card × Int) else some (c, 0) else some (zC, 15)) = some (rdC s) := by
  rw [cards_Write_is c h, Option.bind_some]
  unfold rdC
  rw [← hc]
  dsimp only
  cases hr : rightC c with
  | false =>
    rw [show (wrC c).2 = 1 by unfold wrC; rw [hr]; rfl, if_neg (by decide), if_neg (fun q => by cases q.2.1)]
    rfl
  | true =>
    rw [show (wrC c).2 = 0 by unfold wrC; rw [hr]; rfl, if_pos (by decide)]
    by_cases he : (wrC c).1 = s
    · rw [if_neg (by simp [he]), if_pos ⟨hs, rfl, he⟩]
    · rw [if_pos (by simp [he]), if_neg (fun q => he q.2.2)]
      rfl

theorem rans_c (s : List UInt8) (hs : s.length = 32) (c : Card) (h : lenC c) (hc : c = cardOf s) :
    ((rf09_Write c).bind fun (r34, r34_2) => if (r34_2 != 0) = false then if (!(r34 == s)) = true then some ((zC, 15) : Card × Int) else some (c, 0) else some (zC, 15)) = some (rdC s) := by
  rw [refWrite_c c h, Option.bind_some]
  unfold rdC
  rw [← hc]
  dsimp only
  cases hr : rightC c with
  | false =>
    rw [show (wrC c).2 = 1 by unfold wrC; rw [hr]; rfl, if_neg (by decide), if_neg (fun q => by cases q.2.1)]
    rfl
  | true =>
    rw [show (wrC c).2 = 0 by unfold wrC; rw [hr]; rfl, if_pos (by decide)]
    by_cases he : (wrC c).1 = s
    · rw [if_neg (by simp [he]), if_pos ⟨hs, rfl, he⟩]
    · rw [if_pos (by simp [he]), if_neg (fun q => he q.2.2)]
      rfl

theorem ws1_split (s : List UInt8) : rdS ws1 s = rdS [1, 1, 2, 4] s ++ rdS [2, 2, 2, 2, 2, 2] (s.drop 8) := rdS_app [1, 1, 2, 4] [2, 2, 2, 2, 2, 2] s
theorem ws2_split (s : List UInt8) : rdS ws2 s = rdS [1, 1, 2, 4] s ++ numsC s := rdS_app [1, 1, 2, 4] [1, 2, 2, 2, 2, 2, 2, 2, 2, 2, 2] s

theorem cards_Read_is (s : List UInt8) : cards_Read s = some (rdC s) := by
  unfold cards_Read
  by_cases hs : s.length = 32
  · rw [if_neg (by simp [hs]), if_pos (by omega), wrap64 (by omega) (by have := (s.getD 0 0).toNat_lt; omega)]
    obtain ⟨h0, h1, h2, h3, hh⟩ := four (rdS [1, 1, 2, 4] s) (rdS_len _ _)
    have hf := head_first s
    rw [hh] at hf
    have hf : h0 = ((s.getD 0 0).toNat : Int) := hf
    rw [← hf]
    by_cases f1 : h0 = 1
    · subst f1
      obtain ⟨a, b, c, d, e, f, h6⟩ := six (rdS [2, 2, 2, 2, 2, 2] (s.drop 8)) (rdS_len _ _)
      have hrd : rd ws1 s = ([1, h1, h2, h3, a, b, c, d, e, f], 0) := by
        rw [rd_ok _ _ ws1_ok (by rw [hs]; decide), ws1_split, hh, h6]; rfl
      have hc : cardOf s = (1, h1, h2, h3, [a, b, c, d], e, f, [], 0) := by
        unfold cardOf
        rw [hh, h6]
        rfl
      rw [moulds1, Option.bind_some]
      dsimp only
      rw [if_neg (by decide), mould_Read_is _ _ (by decide), hrd, Option.bind_some]
      dsimp only
      rw [if_neg (by decide), card_one, Option.bind_some, Option.bind_some]
      dsimp only
      exact ans_c s hs _ (by exact ⟨by simp, by simp⟩) hc.symm
    · by_cases f2 : h0 = 2
      · subst f2
        obtain ⟨x, a, b, c, d, e, f, g, i, j, k, h11⟩ := eleven (numsC s) (rdS_len _ _)
        have hx : x = ((val ((s.drop 8).take 1) : Nat) : Int) := by
          have : (numsC s).getD 0 0 = ((val ((s.drop 8).take 1) : Nat) : Int) := rfl
          rw [h11] at this
          exact this
        have hrd : rd ws2 s = ([2, h1, h2, h3, x, a, b, c, d, e, f, g, i, j, k], 0) := by
          rw [rd_ok _ _ ws2_ok (by rw [hs]; decide), ws2_split, hh, h11]; rfl
        have hc : cardOf s = (2, h1, h2, h3, [], 0, 0, (List.range (min 3 x.toNat)).map (spR [x, a, b, c, d, e, f, g, i, j, k]), k) := by
          unfold cardOf
          rw [hh, h11]
          rfl
        rw [moulds2, Option.bind_some]
        dsimp only
        rw [if_neg (by decide), mould_Read_is _ _ (by decide), hrd, Option.bind_some]
        dsimp only
        rw [hx, Int.toNat_natCast] at hc
        rw [if_neg (by decide), hx, card_two _ _ _ _ _ _ _ _ _ _ _ _ _ _ _ (by decide), Option.bind_some, Option.bind_some]
        dsimp only
        exact ans_c s hs _ (by exact ⟨by simp, by simp; omega⟩) hc.symm
      · have hc : cardOf s = zeroC := by
          unfold cardOf
          rw [hh]
          dsimp only
          rw [show ([h0, h1, h2, h3] : List Int).getD 0 0 = h0 from rfl, if_neg f1, if_neg f2]
        rw [moulds0 _ f1 f2, Option.bind_some]
        dsimp only
        rw [Option.bind_some]
        dsimp only
        exact ans_c s hs zeroC (by exact ⟨by simp [zeroC], by simp [zeroC]⟩) hc.symm
  · rw [if_pos (by simpa using fun q : (s.length : Int) = 32 => hs (by omega))]
    unfold rdC
    rw [if_neg (fun q => hs q.1)]
    rfl

theorem spR_loop (c1 c2 c3 c4 : Int) (s : List UInt8) (l : List Int) (n : Nat) (hl : l.length = 11) (h0 : l.getD 0 0 = (n : Int)) :
    loopO rf09_Read.l1 ((zC, (c1, c2, c3, c4, [], 0, 0, 0), []), s, l, 0) = some ((zC, (c1, c2, c3, c4, [], 0, 0, 0), (List.range (min 3 n)).map (spR l)), s, l) := by
  have := loop_run (f := rf09_Read.l1) (fun i => ((zC, (c1, c2, c3, c4, [], 0, 0, 0), (List.range i).map (spR l)), s, l, (i : Int))) (n := min 3 n) (r := ((zC, (c1, c2, c3, c4, [], 0, 0, 0), (List.range (min 3 n)).map (spR l)), s, l)) (fun i hi => by
    unfold rf09_Read.l1
    dsimp only
    have e0 : IntKind.i64.wrap (3 * (i : Int)) = 3 * (i : Int) := wrap64 (by omega) (by omega)
    have e1 : IntKind.i64.wrap (1 + 3 * (i : Int)) = ((1 + 3 * i : Nat) : Int) := by rw [wrap64 (by omega) (by omega)]; omega
    have e2 : IntKind.i64.wrap (2 + 3 * (i : Int)) = ((2 + 3 * i : Nat) : Int) := by rw [wrap64 (by omega) (by omega)]; omega
    have e3 : IntKind.i64.wrap (3 + 3 * (i : Int)) = ((3 + 3 * i : Nat) : Int) := by rw [wrap64 (by omega) (by omega)]; omega
    rw [if_pos (by omega), h0, if_pos (by simp; omega), if_pos (by simp; omega), e0, e1, e2, e3, if_pos (by omega), if_pos (by omega), if_pos (by omega), if_pos (room (by decide) (by simp; omega)), wrap_succ (by omega), Int.toNat_natCast, Int.toNat_natCast, Int.toNat_natCast, List.range_succ, List.map_append]
    rfl) (by
    unfold rf09_Read.l1
    dsimp only
    rw [if_pos (by omega), h0]
    by_cases h : n ≤ 3
    · rw [show min 3 n = n by omega, if_neg (by simp)]
    · rw [show min 3 n = 3 by omega, if_pos (by simp; omega), if_neg (by decide)])
  exact this

theorem rf09_Read_is (s : List UInt8) : rf09_Read s = some (rdC s) := by
  unfold rf09_Read
  by_cases hs : s.length = 32
  · rw [if_neg (by simp [hs])]
    obtain ⟨h0, h1, h2, h3, hh⟩ := four (rdS [1, 1, 2, 4] s) (rdS_len _ _)
    have hf := head_first s
    rw [hh] at hf
    have hf : h0 = ((s.getD 0 0).toNat : Int) := hf
    have hrd4 : rd [1, 1, 2, 4] s = ([h0, h1, h2, h3], 0) := by
      rw [rd_ok _ _ (by decide) (by rw [hs]; decide), hh]
    rw [ref_Read_is _ _ (by decide) (by omega), hrd4, Option.bind_some]
    dsimp only
    have g0 : ([h0, h1, h2, h3] : List Int).getD 0 0 = h0 := rfl
    have g1 : ([h0, h1, h2, h3] : List Int).getD 1 0 = h1 := rfl
    have g2 : ([h0, h1, h2, h3] : List Int).getD 2 0 = h2 := rfl
    have g3 : ([h0, h1, h2, h3] : List Int).getD 3 0 = h3 := rfl
    rw [g0, g1, g2, g3]
    by_cases f0 : h0 = 0
    · subst f0
      have hc : cardOf s = zeroC := by
        unfold cardOf
        rw [hh]
        rfl
      rw [if_pos (by simp), if_neg (by decide), Option.bind_some]
      dsimp only
      rw [g0, if_pos (by simp), if_neg (by decide), Option.bind_some]
      dsimp only
      rw [g0, if_pos (by simp), if_neg (by decide), Option.bind_some]
      dsimp only
      exact rans_c s hs zeroC (by exact ⟨by simp [zeroC], by simp [zeroC]⟩) hc.symm
    · rw [if_pos (by simp), if_pos (by simpa using f0), if_pos (by simp), if_pos (by simp), if_pos (by simp), if_pos (by simp), Option.bind_some]
      dsimp only
      rw [g0]
      by_cases f1 : h0 = 1
      · subst f1
        obtain ⟨a, b, c, d, e, f, h6⟩ := six (rdS [2, 2, 2, 2, 2, 2] (s.drop 8)) (rdS_len _ _)
        have hrd : rd [2, 2, 2, 2, 2, 2] (s.drop 8) = ([a, b, c, d, e, f], 0) := by
          rw [rd_ok _ _ (by decide) (by simp [hs]), h6]
        have hc : cardOf s = (1, h1, h2, h3, [a, b, c, d], e, f, [], 0) := by
          unfold cardOf
          rw [hh, h6]
          rfl
        rw [if_pos (by simp), if_pos (by decide), if_pos (by omega), ref_Read_is _ _ (by decide) (by simp; omega), hrd, Option.bind_some]
        dsimp only
        rw [if_pos (by simp), if_pos (by simp), if_pos (by simp), Option.bind_some]
        dsimp only
        rw [g0, if_pos (by simp), if_neg (by decide), Option.bind_some]
        dsimp only
        exact rans_c s hs (1, h1, h2, h3, [a, b, c, d], e, f, [], 0) (by exact ⟨by simp, by simp⟩) hc.symm
      · rw [if_pos (by simp), if_neg (by simpa using f1), Option.bind_some]
        dsimp only
        rw [g0]
        by_cases f2 : h0 = 2
        · subst f2
          have hl11 : (numsC s).length = 11 := rdS_len _ _
          have hn0 : (numsC s).getD 0 0 = ((val ((s.drop 8).take 1) : Nat) : Int) := rfl
          have hrd : rd [1, 2, 2, 2, 2, 2, 2, 2, 2, 2, 2] (s.drop 8) = (numsC s, 0) := by
            rw [rd_ok _ _ (by decide) (by simp [hs])]; rfl
          have hc : cardOf s = (2, h1, h2, h3, [], 0, 0, (List.range (min 3 (val ((s.drop 8).take 1)))).map (spR (numsC s)), (numsC s).getD 10 0) := by
            unfold cardOf
            rw [hh]
            dsimp only
            rw [hn0]
            rfl
          rw [if_pos (by simp), if_pos (by decide), if_pos (by omega), ref_Read_is _ _ (by decide) (by simp; omega), hrd, Option.bind_some]
          dsimp only
          rw [spR_loop _ _ _ _ s _ _ hl11 hn0, Option.bind_some]
          dsimp only
          rw [if_pos (by omega), Option.bind_some]
          dsimp only
          exact rans_c s hs (2, h1, h2, h3, [], 0, 0, (List.range (min 3 (val ((s.drop 8).take 1)))).map (spR (numsC s)), (numsC s).getD 10 0) (by exact ⟨by simp, by simp; omega⟩) hc.symm
        · have hc : cardOf s = zeroC := by
            unfold cardOf
            rw [hh]
            dsimp only
            rw [show ([h0, h1, h2, h3] : List Int).getD 0 0 = h0 from rfl, if_neg f1, if_neg f2]
          rw [if_pos (by simp), if_neg (by simpa using f2), Option.bind_some]
          dsimp only
          have hnr : rightC (h0, h1, h2, h3, [], 0, 0, [], 0) = false := by
            unfold rightC
            dsimp only
            rw [decide_eq_false (by
              intro q
              have : h0 = 0 := congrArg (·.1) q
              exact f0 this), show (h0 == 1) = false by simpa using f1, show (h0 == 2) = false by simpa using f2]
            simp
          have hw : wrC (h0, h1, h2, h3, [], 0, 0, [], 0) = ([], 1) := by
            unfold wrC
            rw [hnr]
            rfl
          rw [refWrite_c _ (by exact ⟨by simp, by simp⟩), hw, Option.bind_some]
          dsimp only
          rw [if_neg (by decide)]
          unfold rdC
          rw [if_neg]
          · rfl
          · rintro ⟨_, _, q⟩
            rw [hc] at q
            have e : (wrC zeroC).1 = List.replicate 32 0 := rfl
            rw [e] at q
            rw [← q] at hf
            exact f0 hf
  · rw [if_pos (by simpa using fun q : (s.length : Int) = 32 => hs (by omega))]
    unfold rdC
    rw [if_neg (fun q => hs q.1)]
    rfl

end Go.Proofs.YtiodpeekbeahlaaGreatDoor.Abs
