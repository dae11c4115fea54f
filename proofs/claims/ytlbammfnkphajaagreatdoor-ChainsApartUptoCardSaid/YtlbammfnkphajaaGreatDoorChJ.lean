/- Chains: the laws. -/
import Derived.Test.YtlbammfnkphajaaGreatDoorChI
namespace Go.Proofs.YtlbammfnkphajaaGreatDoor.Abs
open Go
set_option linter.unusedVariables false
attribute [-simp] List.getD_eq_getElem?_getD

theorem nb_nil : nbM [] = 0 := by decide +kernel

/-- A file on a new disk, and what it holds. -/
structure Kept (n T : Nat) (k0 : Card) (w : Loo) (k : Card) (bs m : List Int) : Prop where
  disk : Disk 1 n (newX n) w
  filed : Filed n (newX n) w k (wid 76 m) bs
  ents : entries n m
  tot : freeS n (mkW (newX n) w) + bs.length = T
  cnt : bs.length = nbM m
  same : k.2.2.1 = k0.2.2.1 ∧ k.2.2.2.1 = k0.2.2.2.1

theorem kept_new {n : Nat} (hr : 64 ≤ n ∧ n ≤ 400) : Kept n (n - 51) fresh (w0 n) fresh [] [] :=
  ⟨new_disk hr, fresh_filed, (fun x hx => by cases hx), by rw [new_free hr]; rfl, nb_nil.symm, rfl, rfl⟩

section
variable {n T : Nat} {k0 : Card} {w : Loo} {k : Card} {bs m0' : List Int} (h : Kept n T k0 w k bs m0') (c u : Int) (p1 : Bool) (p2 : Int)
include h

theorem kept_over (m : List Int) (hm : m.length ≤ 60000) (he : entries n m) (ho : overM m = true) : chains_Save (((p1, p2), w, (c, u), newX n, []), k, m) = some (((p1, p2), w, (c, u), newX n, []), zeroC, 12) := by
  rw [save_s h.disk c u p1 p2 h.filed m hm he, if_pos ho]

theorem kept_full (m : List Int) (hm : m.length ≤ 60000) (he : entries n m) (ho : overM m = false) (hf : T < nbM m) : chains_Save (((p1, p2), w, (c, u), newX n, []), k, m) = some (((p1, p2), w, (c, u), newX n, []), zeroC, 10) := by
  rw [save_s h.disk c u p1 p2 h.filed m hm he, ho, if_neg (c := false = true) (by decide), if_pos (by rw [h.tot]; exact hf)]

theorem kept_save (m : List Int) (hm : m.length ≤ 60000) (he : entries n m) (ho : overM m = false) (hf : nbM m ≤ T) : ∃ w' k' bs', chains_Save (((p1, p2), w, (c, u), newX n, []), k, m) = some (((p1, p2), w', (c, u), newX n, []), k', 0) ∧ Kept n T k0 w' k' bs' m := by
  have hr := h.disk.room
  obtain ⟨s1, s2, s3, s4, s5, s6, s7⟩ := save_ok h.disk h.filed he (by rw [h.tot]; exact hf)
  have ht := h.tot
  refine ⟨_, _, _, ?_, s1, s2, he, by rw [s3]; omega, s3, h.same⟩
  rw [save_s h.disk c u p1 p2 h.filed m hm he, ho, if_neg (c := false = true) (by decide), if_neg (by omega)]

theorem kept_free : stock_Free ((p1, p2), w, (c, u), newX n, []) = some (((p1, p2), w, (c, u), newX n, []), ((T - bs.length : Nat) : Int), 0) := by
  have ht := h.tot
  rw [free_s h.disk, freeS_int, show freeS n (mkW (newX n) w) = T - bs.length by omega]

theorem kept_load : chains_Load_1 (((p1, p2), w, (c, u), newX n, []), k) = some (((p1, p2), w, (c, u), newX n, []), wid 76 m0', 0) := load1_s h.disk c u p1 p2 h.filed

theorem kept_lists : chains_Lists_1 (((p1, p2), w, (c, u), newX n, []), k) = some (((p1, p2), w, (c, u), newX n, []), bs, 0) := lists_s h.disk c u p1 p2 h.filed
end

/-! ### A file is given up -/

theorem over_nil : overM [] = false := rfl

theorem drop_tail {w : Loo} {k : Card} {bs m : List Int} (h : Kept 400 349 fresh w k bs m) : ∃ w' k', chains_Drop (((false, 0), w, (0, -1), newX 400, []), k) = some (((false, 0), w', (0, -1), newX 400, []), k', 0) ∧
    stock_Free ((false, 0), w', (0, -1), newX 400, []) = some (((false, 0), w', (0, -1), newX 400, []), 349, 0) ∧ chains_Lists_1 (((false, 0), w', (0, -1), newX 400, []), k') = some (((false, 0), w', (0, -1), newX 400, []), [], 0) ∧
    chains_Load_1 (((false, 0), w', (0, -1), newX 400, []), k') = some (((false, 0), w', (0, -1), newX 400, []), wid 76 [], 0) ∧ k'.2.2.1 = 1 ∧ k'.2.2.2.1 = 0 := by
  obtain ⟨w', k', bs', e, g⟩ := kept_save h 0 (-1) false 0 [] (by decide) (fun x hx => by cases hx) over_nil (by rw [nb_nil]; exact Nat.zero_le _)
  have hb : bs' = [] := List.length_eq_zero_iff.1 (by rw [g.cnt, nb_nil])
  subst hb
  refine ⟨w', k', ?_, kept_free g 0 (-1) false 0, kept_lists g 0 (-1) false 0, kept_load g 0 (-1) false 0, g.same.1, g.same.2⟩
  obtain ⟨k1, k2, k3, k4, k5, k6, k7, k8, k9⟩ := k
  unfold chains_Drop
  dsimp only
  rw [e, Option.bind_some]

theorem wide_nil : wid 76 [] = List.replicate 76 (0 : Int) := by decide +kernel

theorem lw14_ChainsDrop_row (x0 x1 : List Int) (w0' : wfD (.sl I) x0) (w1 : wfD (.sl I) x1) (hb : bulk (.sl I) x0 + bulk (.sl I) x1 ≤ 1048576) : lw14_ChainsDrop (x0, x1) = some true := by
  have hr : 64 ≤ 400 ∧ 400 ≤ 400 := by decide
  have h0 := bulk_ints x0
  have h1 := bulk_ints x1
  change x0.length < bulk (.sl I) x0 at h0
  change x1.length < bulk (.sl I) x1 at h1
  have hk := kept_new hr
  have e0 := inside_entries hr x0
  have e1 := inside_entries hr x1
  have l0 := inside_len 400 x0
  have l1 := inside_len 400 x1
  have tail : ∀ {w : Loo} {k : Card} {bs m : List Int} (c : Card), Kept 400 349 fresh w k bs m → c.2.2.1 = 1 ∧ c.2.2.2.1 = 0 → ((some (c, k, (false, (0 : Int)), w, ((0 : Int), (-1 : Int)), newX 400, ([] : Loo)) : Option (Card × Card × (Bool × Int) × Loo × (Int × Int) × List Blk × Loo)).bind fun ((c6a, c6b, c6c, c6d, c6e, c6f, c6g, c6h, c6i), (x8a, x8b, x8c, x8d, x8e, x8f, x8g, x8h, x8i), (o3b, o3c), o4, (o5c, o5d), o6, o7) =>
           (chains_Drop (((o3b, o3c), o4, (o5c, o5d), o6, o7), x8a, x8b, x8c, x8d, x8e, x8f, x8g, x8h, x8i)).bind fun (((r49, r49_2), r49_3, (r49_4, r49_5), r49_6, r49_7), r49_8, r49_9) =>
            (stock_Free ((r49, r49_2), r49_3, (r49_4, r49_5), r49_6, r49_7)).bind fun (((r54, r54_2), r54_3, (r54_4, r54_5), r54_6, r54_7), r54_8, r54_9) =>
             (chains_Lists_1 (((r54, r54_2), r54_3, (r54_4, r54_5), r54_6, r54_7), r49_8)).bind fun (((r60, r60_2), r60_3, (r60_4, r60_5), r60_6, r60_7), r60_8, r60_9) =>
              (chains_Load_1 (((r60, r60_2), r60_3, (r60_4, r60_5), r60_6, r60_7), r49_8)).bind fun (((r66, r66_2), r66_3, (r66_4, r66_5), r66_6, r66_7), r66_8, r66_9) =>
               if (r49_9 == 0) = true then
                if (r54_9 == 0) = true then
                 if (r54_8 == 349) = true then
                  if (r60_9 == 0) = true then
                   if ((r60_8.length : Int) == 0) = true then
                    if (r66_9 == 0) = true then
                     if 0 ≤ (76 : Int) ∧ (76 : Int) ≤ (76 : Int) ∧ (76 : Int) * (8 : Nat) ≤ 140737488355328 ∧ (76 : Int) ≤ 9223372036854775807 then
                      (rf01_Same (r66_8, List.replicate 76 (0 : Int))).bind fun r95 =>
                       if r95 = true then
                        if (r49_8.2.2.1 == c6c) = true then
                         some (((r49_8.2.2.2.1 == c6d)))
                        else
                         some false
                       else
                        some false
                     else none
                    else
                     some false
                   else
                    some false
                  else
                   some false
                 else
                  some false
                else
                 some false
               else
                some false) = some true := by
    intro w k bs m c hK hc
    obtain ⟨w', k', d1, d2, d3, d4, d5, d6⟩ := drop_tail hK
    obtain ⟨k1, k2, k3, k4, k5, k6, k7, k8, k9⟩ := k
    obtain ⟨c1, c2, c3, c4, c5, c6, c7, c8, c9⟩ := c
    obtain ⟨rfl, rfl⟩ : c3 = 1 ∧ c4 = 0 := hc
    rw [Option.bind_some]
    dsimp only
    rw [d1, Option.bind_some]
    dsimp only
    rw [d2, Option.bind_some]
    dsimp only
    rw [d3, Option.bind_some]
    dsimp only
    rw [d4, Option.bind_some]
    dsimp only
    rw [d5, d6, if_pos (by decide), if_pos (by decide), if_pos (by decide), if_pos (by decide), if_pos (by decide), if_pos (by decide), if_pos (by decide), wide_nil, Sn.sameInts _ (by simp), Option.bind_some, if_pos rfl, if_pos (by decide)]
    rfl
  unfold lw14_ChainsDrop
  dsimp only
  rw [lives_is, Option.bind_some, if_neg (by decide), show (400 : Int) = ((400 : Nat) : Int) from rfl, begin_is hr, Option.bind_some]
  dsimp only
  rw [fresh_is, Option.bind_some, inside_s hr x0 (by omega), Option.bind_some]
  cases ho : overM (insideS 400 x0) with
  | true =>
    rw [kept_over hk 0 (-1) false 0 _ (by omega) e0 ho, Option.bind_some]
    rfl
  | false =>
    have hp := nbM_le (insideS 400 x0)
    obtain ⟨w1, k1, bs1, s1, g1⟩ := kept_save hk 0 (-1) false 0 _ (by omega) e0 ho (by omega)
    rw [s1, Option.bind_some]
    dsimp only
    rw [if_neg (by decide), inside_s hr x1 (by omega), Option.bind_some]
    cases ho1 : overM (insideS 400 x1) with
    | true =>
      rw [kept_over g1 0 (-1) false 0 _ (by omega) e1 ho1, Option.bind_some]
      dsimp only
      rw [if_pos (by decide)]
      exact tail k1 g1 g1.same
    | false =>
      have hp1 := nbM_le (insideS 400 x1)
      obtain ⟨w2, k2, bs2, s2, g2⟩ := kept_save g1 0 (-1) false 0 _ (by omega) e1 ho1 (by omega)
      rw [s2, Option.bind_some]
      dsimp only
      rw [if_neg (by decide)]
      exact tail k1 g2 g1.same

/-! ### Two files side by side -/

structure Two (w : Loo) (x y : Card) (bx bY mx my : List Int) : Prop where
  disk : Disk 1 400 (newX 400) w
  fx : Filed 400 (newX 400) w x (wid 76 mx) bx
  fy : Filed 400 (newX 400) w y (wid 76 my) bY
  tot : freeS 400 (mkW (newX 400) w) + bx.length + bY.length = 349
  cx : bx.length = nbM mx
  cy : bY.length = nbM my
  apart : ∀ b ∈ bx, b ∉ bY

theorem Two.swap {w : Loo} {x y : Card} {bx bY mx my : List Int} (h : Two w x y bx bY mx my) : Two w y x bY bx my mx :=
  ⟨h.disk, h.fy, h.fx, by have := h.tot; omega, h.cy, h.cx, fun b hb hb2 => h.apart b hb2 hb⟩

theorem two_save {w : Loo} {x y : Card} {bx bY mx my : List Int} (h : Two w x y bx bY mx my) (m : List Int) (hm : m.length ≤ 200) (he : entries 400 m) :
    (overM m = true ∧ chains_Save (((false, 0), w, (0, -1), newX 400, []), x, m) = some (((false, 0), w, (0, -1), newX 400, []), zeroC, 12)) ∨
    ∃ w' x' bx', chains_Save (((false, 0), w, (0, -1), newX 400, []), x, m) = some (((false, 0), w', (0, -1), newX 400, []), x', 0) ∧ Two w' x' y bx' bY m my := by
  cases ho : overM m with
  | true =>
    left
    refine ⟨rfl, ?_⟩
    rw [save_s h.disk 0 (-1) false 0 h.fx m (by omega) he, if_pos ho]
  | false =>
    right
    have hp := nbM_le m
    have hpy := nbM_le my
    have ht := h.tot
    have hcx := h.cx
    have hcy := h.cy
    have hfit : nbM m ≤ freeS 400 (mkW (newX 400) w) + bx.length := by omega
    obtain ⟨s1, s2, s3, s4, s5, s6, s7⟩ := save_ok h.disk h.fx he hfit
    have hnot : ∀ b ∈ bY, b ∉ (saveW (newX 400) 400 w bx m).2.2.2 := fun b hb hb2 => by
      rcases s6 b hb2 with q | q
      · exact h.apart b q hb
      · rw [(h.fy.used b hb).2] at q; cases q
    refine ⟨_, _, _, ?_, s1, s2, h.fy.frame (fun b hb => ?_) (fun b hb => ?_), by rw [s3]; omega, s3, hcy, fun b hb hb2 => hnot b hb2 hb⟩
    · rw [save_s h.disk 0 (-1) false 0 h.fx m (by omega) he, ho, if_neg (c := false = true) (by decide), if_neg (by omega)]
    · have := (h.fy.used b hb).1
      unfold ownI at this
      rw [decide_eq_true_eq] at this
      exact s7 b (by omega) (hnot b hb)
    · rw [s5, if_neg (hnot b hb), if_neg (fun q => h.apart b q hb)]
      exact (h.fy.used b hb).2

def st3 (x y : Card) (w : Loo) (a b : List (List Int)) (mx my : List Int) (i : Int) : (Card × Card × (Bool × Int) × Loo × (Int × Int) × List Blk × Loo) × List (List Int) × List (List Int) × List Int × List Int × Int :=
  ((x, y, (false, 0), w, (0, -1), newX 400, []), a, b, mx, my, i)

theorem apart_step (a b : List (List Int)) (ha : a.length ≤ 1048576) (hb : b.length ≤ 1048576) (ha2 : ∀ m ∈ a, m.length ≤ 1048576) (hb2 : ∀ m ∈ b, m.length ≤ 1048576) (i : Nat) (hi : i < 8) (hl : i < a.length ∨ i < b.length) {w : Loo} {x y : Card} {bx bY mx my : List Int}
    (h : Two w x y bx bY mx my) (hmx : mx.length ≤ 200) (hmy : my.length ≤ 200) : ∃ w' x' y' bx' bY' mx' my', lw14_ChainsApart.l1 (st3 x y w a b mx my (i : Int)) = some (.inl (st3 x' y' w' a b mx' my' ((i + 1 : Nat) : Int))) ∧ Two w' x' y' bx' bY' mx' my' ∧ mx'.length ≤ 200 ∧ my'.length ≤ 200 := by
  have hr : 64 ≤ 400 ∧ 400 ≤ 400 := by decide
  -- the first of the two
  obtain ⟨w1, x1, bx1, mx1, h1, hm1, k1⟩ : ∃ w1 x1 bx1 mx1, Two w1 x1 y bx1 bY mx1 my ∧ mx1.length ≤ 200 ∧
      ((i < a.length ∧ ((overM (insideS 400 (a.getD i [])) = true ∧ w1 = w ∧ x1 = x ∧ mx1 = mx ∧ chains_Save (((false, 0), w, (0, -1), newX 400, []), x, insideS 400 (a.getD i [])) = some (((false, 0), w, (0, -1), newX 400, []), zeroC, 12)) ∨
        (mx1 = insideS 400 (a.getD i []) ∧ chains_Save (((false, 0), w, (0, -1), newX 400, []), x, insideS 400 (a.getD i [])) = some (((false, 0), w1, (0, -1), newX 400, []), x1, 0)))) ∨ (¬ i < a.length ∧ w1 = w ∧ x1 = x ∧ mx1 = mx)) := by
    by_cases hia : i < a.length
    · rcases two_save h (insideS 400 (a.getD i [])) (inside_len _ _) (inside_entries hr _) with ⟨q1, q2⟩ | ⟨w1, x1, bx1, q1, q2⟩
      · exact ⟨w, x, bx, mx, h, hmx, .inl ⟨hia, .inl ⟨q1, rfl, rfl, rfl, q2⟩⟩⟩
      · exact ⟨w1, x1, bx1, _, q2, inside_len _ _, .inl ⟨hia, .inr ⟨rfl, q1⟩⟩⟩
    · exact ⟨w, x, bx, mx, h, hmx, .inr ⟨hia, rfl, rfl, rfl⟩⟩
  obtain ⟨w2, y2, bY2, my2, h2, hm2, k2⟩ : ∃ w2 y2 bY2 my2, Two w2 x1 y2 bx1 bY2 mx1 my2 ∧ my2.length ≤ 200 ∧
      ((i < b.length ∧ ((overM (insideS 400 (b.getD i [])) = true ∧ w2 = w1 ∧ y2 = y ∧ my2 = my ∧ chains_Save (((false, 0), w1, (0, -1), newX 400, []), y, insideS 400 (b.getD i [])) = some (((false, 0), w1, (0, -1), newX 400, []), zeroC, 12)) ∨
        (my2 = insideS 400 (b.getD i []) ∧ chains_Save (((false, 0), w1, (0, -1), newX 400, []), y, insideS 400 (b.getD i [])) = some (((false, 0), w2, (0, -1), newX 400, []), y2, 0)))) ∨ (¬ i < b.length ∧ w2 = w1 ∧ y2 = y ∧ my2 = my)) := by
    by_cases hib : i < b.length
    · rcases two_save h1.swap (insideS 400 (b.getD i [])) (inside_len _ _) (inside_entries hr _) with ⟨q1, q2⟩ | ⟨w2, y2, bY2, q1, q2⟩
      · exact ⟨w1, y, bY, my, h1, hmy, .inl ⟨hib, .inl ⟨q1, rfl, rfl, rfl, q2⟩⟩⟩
      · exact ⟨w2, y2, bY2, _, q2.swap, inside_len _ _, .inl ⟨hib, .inr ⟨rfl, q1⟩⟩⟩
    · exact ⟨w1, y, bY, my, h1, hmy, .inr ⟨hib, rfl, rfl, rfl⟩⟩
  have hlx := load1_s h2.disk 0 (-1) false 0 h2.fx
  have hly := load1_s h2.disk 0 (-1) false 0 h2.fy
  refine ⟨w2, x1, y2, bx1, bY2, mx1, my2, ?_, h2, hm1, hm2⟩
  have hga : i < a.length → (a.getD i []).length ≤ 1048576 := fun q => by rw [getD_lt q]; exact ha2 _ (List.getElem_mem q)
  have hgb : i < b.length → (b.getD i []).length ≤ 1048576 := fun q => by rw [getD_lt q]; exact hb2 _ (List.getElem_mem q)
  -- the end of the round
  have hend : ∀ (q : Int), q = (i : Int) → (chains_Load_1 (((false, 0), w2, (0, -1), newX 400, []), x1)).bind (fun (((r91, r91_2), r91_3, (r91_4, r91_5), r91_6, r91_7), r91_8, r91_9) =>
     (chains_Load_1 (((r91, r91_2), r91_3, (r91_4, r91_5), r91_6, r91_7), y2)).bind fun (((r97, r97_2), r97_3, (r97_4, r97_5), r97_6, r97_7), r97_8, r97_9) =>
      if (r91_9 != 0) = false then
       if (r97_9 != 0) = false then
        (lw14_wide mx1).bind fun r109 =>
         (rf01_Same (r91_8, r109)).bind fun r110 =>
          if (!r110) = false then
           (lw14_wide my2).bind fun r116 =>
            (rf01_Same (r97_8, r116)).bind fun r117 =>
             if (!r117) = true then
              some (.inr (.inr false))
             else
              some (.inl (((x1, y2, (r97, r97_2), r97_3, (r97_4, r97_5), r97_6, r97_7), a, b, mx1, my2, IntKind.i64.wrap (q + 1))))
          else
           some (.inr (.inr false))
       else
        some (.inr (.inr false))
      else
       some (.inr (.inr false))) = some ((.inl (st3 x1 y2 w2 a b mx1 my2 ((i + 1 : Nat) : Int))) : ((Card × Card × (Bool × Int) × Loo × (Int × Int) × List Blk × Loo) × List (List Int) × List (List Int) × List Int × List Int × Int) ⊕ (Unit ⊕ Bool)) := by
    rintro q rfl
    rw [hlx, Option.bind_some]
    dsimp only
    rw [hly, Option.bind_some]
    dsimp only
    rw [if_pos (by decide), if_pos (by decide), wide_s _ (by omega), Option.bind_some, Sn.sameInts _ (by rw [wid_len]; decide), Option.bind_some, if_pos (by decide), wide_s _ (by omega), Option.bind_some, Sn.sameInts _ (by rw [wid_len]; decide), Option.bind_some, if_neg (by decide), wrap_succ (by omega)]
    rfl
  have hlen : (if decide ((i : Int) < 8) = true then
   if decide ((i : Int) < (a.length : Int)) = false then
    if decide ((i : Int) < (b.length : Int)) = true then
     some ((.inr (st3 x y w a b mx my (i : Int))) : Unit ⊕ ((Card × Card × (Bool × Int) × Loo × (Int × Int) × List Blk × Loo) × List (List Int) × List (List Int) × List Int × List Int × Int))
    else
     some (.inl ())
   else
    some (.inr (st3 x y w a b mx my (i : Int)))
  else
   some (.inl ())) = some (.inr (st3 x y w a b mx my (i : Int))) := by
    rw [if_pos (by rw [decide_eq_true_eq]; omega)]
    by_cases hia : i < a.length
    · rw [if_neg (by simp; omega)]
    · rw [if_pos (by simp; omega), if_pos (by rw [decide_eq_true_eq]; omega)]
  obtain ⟨a1, a2, a3, a4, a5, a6, a7, a8, a9⟩ := x
  obtain ⟨b1, b2, b3, b4, b5, b6, b7, b8, b9⟩ := y
  obtain ⟨f1, f2, f3, f4, f5, f6, f7, f8, f9⟩ := x1
  obtain ⟨g1, g2, g3, g4, g5, g6, g7, g8, g9⟩ := y2
  unfold lw14_ChainsApart.l1
  unfold st3 at hlen ⊢
  dsimp only at hlen hend ⊢
  rw [hlen, Option.bind_some]
  dsimp only
  have first : (if decide ((i : Int) < (a.length : Int)) = true then
    if 0 ≤ (i : Int) ∧ (i : Int) < (a.length : Int) then
     (lw14_inside (a.getD (i : Int).toNat [], 400)).bind fun r53 =>
      (chains_Save (((false, 0), w, (0, -1), newX 400, []), (a1, a2, a3, a4, a5, a6, a7, a8, a9), r53)).bind fun (((r54, r54_2), r54_3, (r54_4, r54_5), r54_6, r54_7), r54_8, r54_9) =>
       if (r54_9 == 0) = true then
        if 0 ≤ (i : Int) ∧ (i : Int) < (a.length : Int) then
         (lw14_inside (a.getD (i : Int).toNat [], 400)).bind fun r64 =>
          some ((((r54_8, (b1, b2, b3, b4, b5, b6, b7, b8, b9), (r54, r54_2), r54_3, (r54_4, r54_5), r54_6, r54_7), a, b, r64, my, (i : Int))))
        else none
       else
        some (((((a1, a2, a3, a4, a5, a6, a7, a8, a9), (b1, b2, b3, b4, b5, b6, b7, b8, b9), (r54, r54_2), r54_3, (r54_4, r54_5), r54_6, r54_7), a, b, mx, my, (i : Int))))
    else none
   else
    some (((((a1, a2, a3, a4, a5, a6, a7, a8, a9), (b1, b2, b3, b4, b5, b6, b7, b8, b9), (false, 0), w, (0, -1), newX 400, []), a, b, mx, my, (i : Int))))) = some (((((f1, f2, f3, f4, f5, f6, f7, f8, f9), (b1, b2, b3, b4, b5, b6, b7, b8, b9), (false, 0), w1, (0, -1), newX 400, []), a, b, mx1, my, (i : Int))) : (Card × Card × (Bool × Int) × Loo × (Int × Int) × List Blk × Loo) × List (List Int) × List (List Int) × List Int × List Int × Int) := by
    rcases k1 with ⟨hia, ⟨q1, q2, q3, q4, q5⟩ | ⟨q1, q2⟩⟩ | ⟨hia, q2, q3, q4⟩
    · rw [if_pos (by rw [decide_eq_true_eq]; omega), if_pos (by omega), Int.toNat_natCast, show (400 : Int) = ((400 : Nat) : Int) from rfl, inside_s hr _ (hga hia), Option.bind_some, q5, Option.bind_some]
      dsimp only
      rw [if_neg (by decide), q2, q4, ← q3]
    · rw [if_pos (by rw [decide_eq_true_eq]; omega), if_pos (by omega), Int.toNat_natCast, show (400 : Int) = ((400 : Nat) : Int) from rfl, inside_s hr _ (hga hia), Option.bind_some, q2, Option.bind_some]
      dsimp only
      rw [if_pos (by decide), if_pos (by omega), Option.bind_some, q1]
    · rw [if_neg (by rw [decide_eq_true_eq]; omega), q2, q4, ← q3]
  rw [first, Option.bind_some]
  dsimp only
  have second : (if decide ((i : Int) < (b.length : Int)) = true then
     if 0 ≤ (i : Int) ∧ (i : Int) < (b.length : Int) then
      (lw14_inside (b.getD (i : Int).toNat [], 400)).bind fun r76 =>
       (chains_Save (((false, 0), w1, (0, -1), newX 400, []), (b1, b2, b3, b4, b5, b6, b7, b8, b9), r76)).bind fun (((r77, r77_2), r77_3, (r77_4, r77_5), r77_6, r77_7), r77_8, r77_9) =>
        if (r77_9 == 0) = true then
         if 0 ≤ (i : Int) ∧ (i : Int) < (b.length : Int) then
          (lw14_inside (b.getD (i : Int).toNat [], 400)).bind fun r87 =>
           some (((((f1, f2, f3, f4, f5, f6, f7, f8, f9), r77_8, (r77, r77_2), r77_3, (r77_4, r77_5), r77_6, r77_7), a, b, mx1, r87, (i : Int))))
         else none
        else
         some (((((f1, f2, f3, f4, f5, f6, f7, f8, f9), (b1, b2, b3, b4, b5, b6, b7, b8, b9), (r77, r77_2), r77_3, (r77_4, r77_5), r77_6, r77_7), a, b, mx1, my, (i : Int))))
     else none
    else
     some (((((f1, f2, f3, f4, f5, f6, f7, f8, f9), (b1, b2, b3, b4, b5, b6, b7, b8, b9), (false, 0), w1, (0, -1), newX 400, []), a, b, mx1, my, (i : Int))))) = some (((((f1, f2, f3, f4, f5, f6, f7, f8, f9), (g1, g2, g3, g4, g5, g6, g7, g8, g9), (false, 0), w2, (0, -1), newX 400, []), a, b, mx1, my2, (i : Int))) : (Card × Card × (Bool × Int) × Loo × (Int × Int) × List Blk × Loo) × List (List Int) × List (List Int) × List Int × List Int × Int) := by
    rcases k2 with ⟨hib, ⟨q1, q2, q3, q4, q5⟩ | ⟨q1, q2⟩⟩ | ⟨hib, q2, q3, q4⟩
    · rw [if_pos (by rw [decide_eq_true_eq]; omega), if_pos (by omega), Int.toNat_natCast, show (400 : Int) = ((400 : Nat) : Int) from rfl, inside_s hr _ (hgb hib), Option.bind_some, q5, Option.bind_some]
      dsimp only
      rw [if_neg (by decide), q2, q4, ← q3]
    · rw [if_pos (by rw [decide_eq_true_eq]; omega), if_pos (by omega), Int.toNat_natCast, show (400 : Int) = ((400 : Nat) : Int) from rfl, inside_s hr _ (hgb hib), Option.bind_some, q2, Option.bind_some]
      dsimp only
      rw [if_pos (by decide), if_pos (by omega), Option.bind_some, q1]
    · rw [if_neg (by rw [decide_eq_true_eq]; omega), q2, q4, ← q3]
  rw [second, Option.bind_some]
  dsimp only
  exact hend _ rfl

theorem lw14_ChainsApart_row (x0 x1 : List (List Int)) (w0' : wfD (.sl (.sl I)) x0) (w1 : wfD (.sl (.sl I)) x1) (hb : bulk (.sl (.sl I)) x0 + bulk (.sl (.sl I)) x1 ≤ 1048576) : lw14_ChainsApart (x0, x1) = some true := by
  have hr : 64 ≤ 400 ∧ 400 ≤ 400 := by decide
  have ha := bulk_lists x0 (by omega)
  have hb' := bulk_lists x1 (by omega)
  have ha2 : ∀ m ∈ x0, m.length ≤ 1048576 := fun m hm => mem_lists (by omega) hm
  have hb2 : ∀ m ∈ x1, m.length ≤ 1048576 := fun m hm => mem_lists (by omega) hm
  have hstart : Two (w0 400) fresh fresh [] [] [] [] := ⟨new_disk hr, fresh_filed, fresh_filed, by rw [new_free hr]; rfl, nb_nil.symm, nb_nil.symm, fun b hb => by cases hb⟩
  obtain ⟨s, ⟨w, x, y, bx, bY, mx, my, rfl, hT, hmx, hmy⟩, hloop⟩ := loop_inv (f := lw14_ChainsApart.l1) (fun i s => ∃ w x y bx bY mx my, s = st3 x y w x0 x1 mx my (i : Int) ∧ Two w x y bx bY mx my ∧ mx.length ≤ 200 ∧ my.length ≤ 200) (n := min 8 (max x0.length x1.length)) (by
    rintro i s hi ⟨w, x, y, bx, bY, mx, my, rfl, hT, hmx, hmy⟩
    obtain ⟨w', x', y', bx', bY', mx', my', e, g, g1, g2⟩ := apart_step x0 x1 ha hb' ha2 hb2 i (by omega) (by omega) hT hmx hmy
    exact ⟨_, e, w', x', y', bx', bY', mx', my', rfl, g, g1, g2⟩) (st3 fresh fresh (w0 400) x0 x1 [] [] 0) ⟨_, _, _, _, _, _, _, rfl, hstart, by decide, by decide⟩
  have hend : lw14_ChainsApart.l1 (st3 x y w x0 x1 mx my ((min 8 (max x0.length x1.length) : Nat) : Int)) = some (.inr (.inl ())) := by
    obtain ⟨a1, a2, a3, a4, a5, a6, a7, a8, a9⟩ := x
    obtain ⟨b1, b2, b3, b4, b5, b6, b7, b8, b9⟩ := y
    unfold lw14_ChainsApart.l1 st3
    dsimp only
    by_cases h8 : max x0.length x1.length < 8
    · rw [if_pos (by rw [decide_eq_true_eq]; omega), if_pos (by simp; omega), if_neg (by rw [decide_eq_true_eq]; omega), Option.bind_some]
    · rw [if_neg (by rw [decide_eq_true_eq]; omega), Option.bind_some]
  unfold lw14_ChainsApart
  dsimp only
  rw [lives_is, Option.bind_some, if_neg (by decide), show (400 : Int) = ((400 : Nat) : Int) from rfl, begin_is hr, Option.bind_some]
  dsimp only
  rw [fresh_is, Option.bind_some, Option.bind_some]
  have hl2 : loopO lw14_ChainsApart.l1 ((fresh, fresh, (false, 0), w0 400, (0, -1), newX 400, []), x0, x1, [], [], 0) = _ := hloop.trans (loopO_inr hend)
  rw [hl2, Option.bind_some]

end Go.Proofs.YtlbammfnkphajaaGreatDoor.Abs
