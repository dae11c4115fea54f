/- Cards of a deal: what is set is read, and nothing else is changed. -/
import Derived.Test.YtiodpeekbeahlaaGreatDoorDlQ
namespace Go.Proofs.YtiodpeekbeahlaaGreatDoor.Abs
open Go
set_option linter.unusedVariables false
attribute [-simp] List.getD_eq_getElem?_getD

/-! ### A card comes back -/

theorem rd_encT (ws vs : List Int) (more : List UInt8) (hok : ws.all okW = true) (h : fitW ws vs = true) : rdS ws (encT ws vs ++ more) = vs := by
  obtain ⟨e, h1, h2⟩ := enc_fit ws vs h
  rw [← h2, rdS_enc ws vs e more hok (fitW_len _ _ h) h1]

theorem encT_app : ∀ (a b va vb : List Int), a.length = va.length → encT (a ++ b) (va ++ vb) = encT a va ++ encT b vb
  | [], b, [], vb, _ => rfl
  | [], _, _ :: _, _, h => by simp at h
  | _ :: _, _, [], _, h => by simp at h
  | w :: a, b, v :: va, vb, h => by
    simp only [List.cons_append, encT]
    rw [encT_app a b va vb (by simpa using h), List.append_assoc]

theorem fitW_app : ∀ (a b va vb : List Int), a.length = va.length → fitW (a ++ b) (va ++ vb) = (fitW a va && fitW b vb)
  | [], b, [], vb, _ => by simp [fitW]
  | [], _, _ :: _, _, h => by simp at h
  | _ :: _, _, [], _, h => by simp at h
  | w :: a, b, v :: va, vb, h => by
    simp only [List.cons_append, fitW]
    rw [fitW_app a b va vb (by simpa using h), Bool.and_assoc]

/-- The head of a card, and what is behind it. -/
theorem head_back (c1 c2 c3 c4 : Int) (ws vs : List Int) (hok : ws.all okW = true) (h : fitW ([1, 1, 2, 4] ++ ws) ([c1, c2, c3, c4] ++ vs) = true) (hl : (encT ([1, 1, 2, 4] ++ ws) ([c1, c2, c3, c4] ++ vs)).length ≤ 32) :
    rdS [1, 1, 2, 4] (padC (encT ([1, 1, 2, 4] ++ ws) ([c1, c2, c3, c4] ++ vs))) = [c1, c2, c3, c4] ∧ rdS ws ((padC (encT ([1, 1, 2, 4] ++ ws) ([c1, c2, c3, c4] ++ vs))).drop 8) = vs := by
  rw [fitW_app [1, 1, 2, 4] ws [c1, c2, c3, c4] vs rfl, Bool.and_eq_true] at h
  have hlen := encT_len _ _ h.1
  have hlen : (encT [1, 1, 2, 4] [c1, c2, c3, c4]).length = 8 := hlen
  unfold padC
  rw [encT_app [1, 1, 2, 4] ws [c1, c2, c3, c4] vs rfl, List.append_assoc]
  refine ⟨rd_encT _ _ _ (by decide) h.1, ?_⟩
  rw [List.drop_append_of_le_length (by omega), List.drop_of_length_le (by omega), List.nil_append]
  exact rd_encT _ _ _ hok h.2

theorem card_back {c : Card} (h : rightC c = true) : cardOf (padC (bytesC c)) = c := by
  by_cases hz : c = zeroC
  · subst hz
    have : bytesC zeroC = [] := by unfold bytesC; rw [if_pos rfl]
    rw [this]
    show _ = _
    kernel_rfl
  · have hlen := bytesC_len h
    by_cases hf : c.1 = 1
    · obtain ⟨hfit, p, q, r, s, h5⟩ := right_1 h hz hf
      obtain ⟨c1, c2, c3, c4, c5, c6, c7, c8, c9⟩ := c
      dsimp only at hf h5
      subst hf
      subst h5
      have h89 : c8 = [] ∧ c9 = 0 := by
        unfold rightC at h
        dsimp only at h
        rw [decide_eq_false hz, Bool.false_or, Bool.and_eq_true, Bool.or_eq_true] at h
        rcases h.2 with g | g
        · simp only [Bool.and_eq_true, decide_eq_true_eq] at g
          exact ⟨List.length_eq_zero_iff.1 g.2.2.2.1, g.2.2.2.2⟩
        · simp at g
      obtain ⟨rfl, rfl⟩ := h89
      unfold bytesC at hlen ⊢
      rw [if_neg hz, if_pos rfl] at hlen ⊢
      obtain ⟨b1, b2⟩ := head_back 1 c2 c3 c4 [2, 2, 2, 2, 2, 2] [p, q, r, s, c6, c7] (by decide) hfit hlen
      unfold cardOf
      have b1 : rdS [1, 1, 2, 4] (padC (encT ws1 (vs1 (1, c2, c3, c4, [p, q, r, s], c6, c7, [], 0)))) = [1, c2, c3, c4] := b1
      have b2 : rdS [2, 2, 2, 2, 2, 2] ((padC (encT ws1 (vs1 (1, c2, c3, c4, [p, q, r, s], c6, c7, [], 0)))).drop 8) = [p, q, r, s, c6, c7] := b2
      rw [b1, b2]
      rfl
    · obtain ⟨h1, hfit, _, h3⟩ := right_2 h hz hf
      obtain ⟨c1, c2, c3, c4, c5, c6, c7, c8, c9⟩ := c
      dsimp only at h1 h3
      subst h1
      have h567 : c5 = [] ∧ c6 = 0 ∧ c7 = 0 := by
        unfold rightC at h
        dsimp only at h
        rw [decide_eq_false hz, Bool.false_or, Bool.and_eq_true, Bool.or_eq_true] at h
        rcases h.2 with g | g
        · simp at g
        · simp only [Bool.and_eq_true, decide_eq_true_eq] at g
          exact ⟨List.length_eq_zero_iff.1 g.2.2.1, g.2.2.2.1, g.2.2.2.2⟩
      obtain ⟨rfl, rfl, rfl⟩ := h567
      unfold bytesC at hlen ⊢
      rw [if_neg hz, if_neg (show ¬ (2 : Int) = 1 by decide)] at hlen ⊢
      have key : ∀ (l : List Sp) (hl : l.length ≤ 3) (vs : List Int), vs2 (2, c2, c3, c4, [], 0, 0, l, c9) = [2, c2, c3, c4] ++ vs → (List.range (min 3 (vs.getD 0 0).toNat)).map (spR vs) = l → vs.getD 10 0 = c9 → fitW ws2 (vs2 (2, c2, c3, c4, [], 0, 0, l, c9)) = true → (encT ws2 (vs2 (2, c2, c3, c4, [], 0, 0, l, c9))).length ≤ 32 →
          cardOf (padC (encT ws2 (vs2 (2, c2, c3, c4, [], 0, 0, l, c9)))) = (2, c2, c3, c4, [], 0, 0, l, c9) := by
        intro l hl vs e e2 e3 hfit hlen
        rw [e] at hfit hlen ⊢
        obtain ⟨b1, b2⟩ := head_back 2 c2 c3 c4 [1, 2, 2, 2, 2, 2, 2, 2, 2, 2, 2] vs (by decide) hfit hlen
        have b1 : rdS [1, 1, 2, 4] (padC (encT ws2 ([2, c2, c3, c4] ++ vs))) = [2, c2, c3, c4] := b1
        have b2 : numsC (padC (encT ws2 ([2, c2, c3, c4] ++ vs))) = vs := b2
        unfold cardOf
        rw [b1]
        dsimp only
        have g0 : ([2, c2, c3, c4] : List Int).getD 0 0 = 2 := rfl
        have g1 : ([2, c2, c3, c4] : List Int).getD 1 0 = c2 := rfl
        have g2 : ([2, c2, c3, c4] : List Int).getD 2 0 = c3 := rfl
        have g3 : ([2, c2, c3, c4] : List Int).getD 3 0 = c4 := rfl
        rw [g0, g1, g2, g3, if_neg (by decide), if_pos rfl, b2, e2, e3]
      rcases c8 with _ | ⟨a, _ | ⟨b, _ | ⟨d, _ | ⟨e, r⟩⟩⟩⟩
      · exact key [] (by decide) [0, 0, 0, 0, 0, 0, 0, 0, 0, 0, c9] rfl rfl rfl hfit hlen
      · exact key [a] (by simp) [1, a.1, a.2.1, a.2.2, 0, 0, 0, 0, 0, 0, c9] rfl rfl rfl hfit hlen
      · exact key [a, b] (by simp) [2, a.1, a.2.1, a.2.2, b.1, b.2.1, b.2.2, 0, 0, 0, c9] rfl rfl rfl hfit hlen
      · exact key [a, b, d] (by simp) [3, a.1, a.2.1, a.2.2, b.1, b.2.1, b.2.2, d.1, d.2.1, d.2.2, c9] rfl rfl rfl hfit hlen
      · exact absurd h3 (by simp)

theorem rd_back {c : Card} (h : rightC c = true) : rdC (wrC c).1 = (c, 0) := by
  have hl := wrC_len h
  have e : (wrC c).1 = padC (bytesC c) := by unfold wrC; rw [if_pos h]
  have hb := card_back h
  rw [← e] at hb
  unfold rdC
  rw [hb, if_pos ⟨hl, h, rfl⟩]

/-! ### Places of cards -/

theorem pick_get (x : Blk) (k i : Nat) : (pick x k)[i]? = if i < 32 then x[32 * k + i]? else none := by
  unfold pick
  rw [List.getElem?_drop, List.getElem?_take]
  by_cases h : i < 32
  · rw [if_pos h, if_pos (by omega)]
  · rw [if_neg h, if_neg (by omega)]

theorem place_get {b s : Blk} {k : Nat} (hb : b.length = 128) (hk : k < 4) (hs : s.length = 32) (j : Nat) : (placeS b k s)[j]? = if j < 32 * k then b[j]? else if j < 32 * k + 32 then s[j - 32 * k]? else b[j]? := by
  unfold placeS
  have h1 : (b.take (32 * k)).length = 32 * k := by rw [List.length_take]; omega
  rw [List.append_assoc]
  by_cases h : j < 32 * k
  · rw [if_pos h, List.getElem?_append_left (by omega), List.getElem?_take, if_pos h]
  · rw [if_neg h, List.getElem?_append_right (by omega), h1]
    by_cases h2 : j < 32 * k + 32
    · rw [if_pos h2, List.getElem?_append_left (by omega)]
    · rw [if_neg h2, List.getElem?_append_right (by omega), List.getElem?_drop, hs, show 32 * k + 32 + (j - 32 * k - 32) = j by omega]

theorem pick_place {b s : Blk} {k q : Nat} (hb : b.length = 128) (hk : k < 4) (hq : q < 4) (hs : s.length = 32) : pick (placeS b k s) q = if q = k then s else pick b q := by
  by_cases e : q = k
  · subst e
    rw [if_pos rfl]
    refine List.ext_getElem? fun i => ?_
    rw [pick_get, place_get hb hk hs]
    by_cases h : i < 32
    · rw [if_pos h, if_neg (by omega), if_pos (by omega), show 32 * q + i - 32 * q = i by omega]
    · rw [if_neg h, List.getElem?_eq_none (by omega)]
  · rw [if_neg e]
    refine List.ext_getElem? fun i => ?_
    rw [pick_get, pick_get, place_get hb hk hs]
    by_cases h : i < 32
    · rw [if_pos h, if_pos h]
      by_cases h2 : 32 * q + i < 32 * k
      · rw [if_pos h2]
      · rw [if_neg h2, if_neg (by omega)]
    · rw [if_neg h, if_neg h]

def cardAt (xs : List Blk) (w : Loo) (i : Int) : Card × Int := rdC (pick (getW xs w (slotB i : Int)) (slotK i))

theorem card_set {n : Nat} {xs : List Blk} (hf : Full n xs) (hn : 64 ≤ n) {w : Loo} (hw : WfW n w) {node i : Int} (hnode : 0 ≤ node ∧ node < 32) (hi : 0 ≤ i ∧ i < 32) {c : Card} (hc : rightC c = true) :
    cardAt xs (setCW xs w node c) i = if i = node then (c, 0) else cardAt xs w i := by
  obtain ⟨t1, t2⟩ := slot_there hn hnode
  obtain ⟨u1, u2⟩ := slot_there hn hi
  have t1 := there_i t1
  have hlen := hf.get hw (i := (slotB node : Int)) (by omega)
  unfold cardAt setCW
  rw [if_pos ⟨hnode, hc⟩, get_put]
  by_cases hb : (slotB i : Int) = (slotB node : Int)
  · rw [if_pos hb, pick_place hlen t2 u2 (wrC_len hc)]
    by_cases hk : slotK i = slotK node
    · have e : i = node := by unfold slotB at hb; unfold slotK at hk; omega
      rw [if_pos hk, if_pos e, rd_back hc]
    · rw [if_neg hk, if_neg (fun e => hk (by rw [e])), hb]
  · rw [if_neg hb, if_neg (fun e => hb (by rw [e]))]

theorem crown_back {c : Cr} (h : rightK c = true) : rdK (wrK c).1 = (c, 0) := by
  have hl := crownBy_len h
  have hw : (wrK c).1 = wholeS (crownBy c) := by unfold wrK; rw [if_pos h]
  have hco : crownOf (wrK c).1 = c := by
    unfold crownOf
    rw [hw, wholeS_short _ (by omega)]
    have hd : (crownBy c ++ List.replicate (128 - (crownBy c).length) 0).drop 10 = encT wsK (vsK c) ++ List.replicate (128 - (crownBy c).length) 0 := by
      unfold crownBy
      rw [List.append_assoc, List.drop_append_of_le_length (by decide)]
      rfl
    rw [hd, rd_encT wsK (vsK c) _ (by decide) (rightK_fit h)]
    rfl
  unfold rdK
  rw [hco, if_pos ⟨wrK_len h, h, rfl⟩]

/-! ### The law -/

theorem same_c (a b : Card) (h : lenC a) : rf09_Same (a, b) = some (decide (a = b)) := refCSame_is a b h

theorem lw12_DealCards_row (x0 : List Op12) (x1 : Op12) (w0 : wfD (.sl OpT) x0) (w1 : wfD OpT x1) (hb : bulk (.sl OpT) x0 + bulk OpT x1 ≤ 1048576) : lw12_DealCards (x0, x1) = some true := by
  have hlen := bulk_ops x0 (by omega)
  have hlc := bulk_op x1 (by omega)
  have hr : 64 ≤ 100 ∧ 100 ≤ 400 := by decide
  have hlS : ∀ o ∈ x0.take 150, lenD o.2.2.2.2 := fun o ho => hlen o (List.mem_of_mem_take ho)
  have h150 : (x0.take 150).length ≤ 150 := by simp; omega
  have hok := newX_ok 100 hr
  obtain ⟨o1, node, o3, kc, card⟩ := x1
  change lenD card at hlc
  unfold lw12_DealCards
  dsimp only
  rw [lives_is, Option.bind_some, if_neg (by simp), early_is, Option.bind_some, show (100 : Int) = ((100 : Nat) : Int) from rfl, begin_is hr, Option.bind_some]
  dsimp only
  generalize x0.take 150 = S at hlS h150
  -- the script
  obtain ⟨s, ⟨k, c, xs, w, hs, hS⟩, hloop⟩ := loop_inv (f := lw12_DealCards.l1) (fun i s => ∃ (k c : Int) (xs : List Blk) (w : Loo), s = ((card, kc, (c, -1), xs, [], (false, k), w), S, node, (i : Int)) ∧ Ok12 100 (86 * i) k c xs w) (n := S.length) (by
    rintro i s hi ⟨k, c, xs, w, rfl, h1⟩
    have hmem : S.getD i (0, (0, ([], ((0, (0, 0)), (0, (0, (0, (0, ([], (0, (0, ([], 0)))))))))))) ∈ S := by
      rw [getD_lt hi]; exact List.getElem_mem hi
    have himg := h1.okay.image
    dsimp only at himg
    rw [image_nil] at himg
    obtain ⟨k', c', xs', w', base', now', b, e1, g1, g2, g3, _, _⟩ := step_is h1 hr.1 (by omega) h1.full h1.full _ (hlS _ hmem)
    refine ⟨_, ?_, k', c', xs', w', rfl, g1.mono (by omega) (by omega)⟩
    obtain ⟨k1, k2, k3, k4, k5, k6, k7, k8, k9⟩ := card
    unfold lw12_DealCards.l1
    dsimp only
    rw [if_pos (by simpa using hi), himg, Option.bind_some]
    dsimp only
    rw [refBegin_is _ h1.full.len (by omega), Option.bind_some]
    dsimp only
    rw [if_pos (by omega), Int.toNat_natCast, e1, Option.bind_some]
    dsimp only
    rw [wrap_succ (by omega)]) ((card, kc, (0, -1), newX 100, [], (false, 0), []), S, node, 0) ⟨0, 0, newX 100, [], rfl, hok⟩
  have hf := hS.full
  have hw := hS.wf
  have hend1 : lw12_DealCards.l1 ((card, kc, (c, -1), xs, [], (false, k), w), S, node, (S.length : Int)) = some (.inr ((card, kc, (false, k), w, (c, -1), xs, []), node)) := by
    obtain ⟨k1, k2, k3, k4, k5, k6, k7, k8, k9⟩ := card
    unfold lw12_DealCards.l1
    dsimp only
    rw [if_neg (by simp)]
  have hl1 : loopO lw12_DealCards.l1 ((card, kc, (0, -1), newX 100, [], (false, 0), []), S, node, 0) = some ((card, kc, (false, k), w, (c, -1), xs, []), node) := hloop.trans (by rw [hs]; exact loopO_inr hend1)
  -- the cards that were
  let was : Nat → List Card := fun m => (List.range m).map fun (i : Nat) => (cardAt xs w (i : Int)).1
  have hwas : ∀ i : Nat, i < 32 → (was 32).getD i (0, (0, (0, (0, ([], (0, (0, ([], 0)))))))) = (cardAt xs w (i : Int)).1 := fun i hi => by
    simp [was, List.getD, hi]
  have hcard : ∀ {w : Loo} (hw : WfW 100 w) (i : Nat), i < 32 → deal_Deal_Card_1 (((false, k), w, (c, -1), xs, []), (i : Int)) = some (((false, k), w, (c, -1), xs, []), cardAt xs w (i : Int)) := fun {w} hw i hi => by
    rw [card_d hf hr.1 hw c (-1) false k (i : Int), if_pos (by omega)]
    rfl
  have hl2 := loop_run (f := lw12_DealCards.l2) (fun i => ((card, kc, was i, (false, k), w, (c, -1), xs, []), node, (i : Int))) (n := 32) (r := ((card, kc, was 32, (false, k), w, (c, -1), xs, []), node)) (fun i hi => by
    obtain ⟨k1, k2, k3, k4, k5, k6, k7, k8, k9⟩ := card
    unfold lw12_DealCards.l2
    dsimp only
    rw [if_pos (by rw [decide_eq_true_eq]; omega), hcard hw i hi, Option.bind_some]
    dsimp only
    rw [if_pos (room (by decide) (by simp only [was, List.length_map, List.length_range, List.length_singleton]; first | done | omega)), wrap_succ (by omega)]
    simp only [was, List.range_succ, List.map_append, List.map_cons, List.map_nil]) (by
    obtain ⟨k1, k2, k3, k4, k5, k6, k7, k8, k9⟩ := card
    unfold lw12_DealCards.l2
    dsimp only
    rw [if_neg (by decide)])
  have hl2 : loopO lw12_DealCards.l2 ((card, kc, [], (false, k), w, (c, -1), xs, []), node, 0) = _ := hl2
  -- a card is set
  have hset := setCard_d hf hr.1 hw c (-1) false k node card hlc
  have hw2 := setCW_wf hr.1 hf hw node card
  have hsame : ∀ i : Nat, i < 32 → cardAt xs (setCW xs w node card) (i : Int) = if setCE node card = 0 ∧ (i : Int) = node then (card, 0) else cardAt xs w (i : Int) := fun i hi => by
    by_cases hnode : 0 ≤ node ∧ node < 32
    · by_cases hc : rightC card = true
      · have he : setCE node card = 0 := by unfold setCE; rw [if_pos hnode, if_pos hc]
        rw [card_set hf hr.1 hw hnode (by omega) hc, he]
        by_cases e : (i : Int) = node
        · rw [if_pos e, if_pos ⟨rfl, e⟩]
        · rw [if_neg e, if_neg (fun q => e q.2)]
      · have he : setCE node card = 1 := by unfold setCE; rw [if_pos hnode, if_neg hc]
        have hwe : setCW xs w node card = w := by unfold setCW; rw [if_neg (fun q => hc q.2)]
        rw [hwe, he, if_neg (fun q => absurd q.1 (by decide))]
    · have he : setCE node card = 5 := by unfold setCE; rw [if_neg hnode]
      have hwe : setCW xs w node card = w := by unfold setCW; rw [if_neg (fun q => hnode q.1)]
      rw [hwe, he, if_neg (fun q => absurd q.1 (by decide))]
  have hlenR : ∀ (i : Nat), lenC (cardAt xs w (i : Int)).1 := fun i => by
    unfold cardAt
    exact rdC_len _
  have hl3 := loop_run (f := lw12_DealCards.l3) (fun i => ((card, kc, was 32, (false, k), setCW xs w node card, (c, -1), xs, []), node, setCE node card, (i : Int))) (n := 32) (r := .inl ((card, kc, (false, k), setCW xs w node card, (c, -1), xs, []), node, setCE node card)) (fun i hi => by
    have hwi := hwas i hi
    have hsi := hsame i hi
    have hli := hlenR i
    have hll : (was 32).length = 32 := by simp [was]
    have hself := refCSame_is card card hlc.c
    have hself2 := refCSame_is (cardAt xs w (i : Int)).1 (cardAt xs w (i : Int)).1 hli
    rw [decide_eq_true rfl] at hself hself2
    have hcd := hcard hw2 i hi
    rw [hsi] at hcd
    generalize was 32 = W at hwi hll
    generalize setCE node card = E at hcd
    generalize setCW xs w node card = w' at hcd
    generalize cardAt xs w (i : Int) = R at hwi hself2 hcd
    obtain ⟨⟨r1, r2, r3, r4, r5, r6, r7, r8, r9⟩, ro⟩ := R
    obtain ⟨k1, k2, k3, k4, k5, k6, k7, k8, k9⟩ := card
    by_cases hE : E = 0
    · subst hE
      by_cases hin : (i : Int) = node
      · rw [if_pos (c := (0 : Int) = 0 ∧ (i : Int) = node) ⟨rfl, hin⟩] at hcd
        unfold lw12_DealCards.l3
        dsimp only
        rw [if_pos (by rw [decide_eq_true_eq]; omega), hcd, Option.bind_some]
        dsimp only
        rw [if_pos (c := ((0 : Int) == 0) = true) (by decide), if_pos (c := ((i : Int) == node) = true) (by simpa using hin), if_pos (c := ((0 : Int) != 0) = false) (by decide), hself, Option.bind_some, if_neg (by decide), Option.bind_some]
        dsimp only
        rw [if_pos (c := ((0 : Int) != 0) = false) (by decide), if_neg (c := ((i : Int) != node) = true) (by simpa using hin), wrap_succ (by omega)]
      · rw [if_neg (c := (0 : Int) = 0 ∧ (i : Int) = node) (fun q => hin q.2)] at hcd
        unfold lw12_DealCards.l3
        dsimp only
        rw [if_pos (by rw [decide_eq_true_eq]; omega), hcd, Option.bind_some]
        dsimp only
        rw [if_pos (c := ((0 : Int) == 0) = true) (by decide), if_neg (c := ((i : Int) == node) = true) (by simpa using hin), Option.bind_some]
        dsimp only
        rw [if_pos (c := ((0 : Int) != 0) = false) (by decide), if_pos (c := ((i : Int) != node) = true) (by simpa using hin), if_pos (by omega), Int.toNat_natCast, hwi, hself2, Option.bind_some, if_neg (by decide), wrap_succ (by omega)]
    · rw [if_neg (c := E = 0 ∧ (i : Int) = node) (fun q => hE q.1)] at hcd
      unfold lw12_DealCards.l3
      dsimp only
      rw [if_pos (by rw [decide_eq_true_eq]; omega), hcd, Option.bind_some]
      dsimp only
      rw [if_neg (c := (E == 0) = true) (by simpa using hE), Option.bind_some]
      dsimp only
      rw [if_neg (c := (E != 0) = false) (by simpa using hE), if_pos (by omega), Int.toNat_natCast, hwi, hself2, Option.bind_some, if_neg (by decide), wrap_succ (by omega)]) (by
    obtain ⟨k1, k2, k3, k4, k5, k6, k7, k8, k9⟩ := card
    unfold lw12_DealCards.l3
    dsimp only
    rw [if_neg (by decide)])
  have hl3 : loopO lw12_DealCards.l3 ((card, kc, was 32, (false, k), setCW xs w node card, (c, -1), xs, []), node, setCE node card, 0) = _ := hl3
  -- a crown is set
  have hsc := setCrown_d hf hr.1 (w := setCW xs w node card) c (-1) false k kc
  have hcr : ∀ {w : Loo} (hw : WfW 100 w), deal_Deal_Crown (((xs, [], c, -1), false, k), w) = some (rdK2 100 (getW xs w 0)) := fun {w} hw => crown_d hf hr.1 hw c (-1) false k
  have hrc := refRight_c card hlc.c
  obtain ⟨k1, k2, k3, k4, k5, k6, k7, k8, k9⟩ := card
  obtain ⟨q1, q2, q3⟩ := kc
  rw [hl1, Option.bind_some]
  dsimp only
  rw [hl2, Option.bind_some]
  dsimp only
  rw [hset, Option.bind_some]
  dsimp only
  rw [hl3, Option.bind_some]
  dsimp only
  rw [hsc, Option.bind_some]
  dsimp only
  have hw3 : WfW 100 (if okK 100 (q1, q2, q3) then mp (setCW xs w node (k1, k2, k3, k4, k5, k6, k7, k8, k9)) 0 (wrK (q1, q2, q3)).1 else setCW xs w node (k1, k2, k3, k4, k5, k6, k7, k8, k9)) := okK_put hr.1 hw2 (q1, q2, q3)
  rw [hcr hw3, Option.bind_some]
  have tail : ∀ (P : Int × Int), (if ((if okK 100 (q1, q2, q3) then (0 : Int) else 1) != 0) = false then
               if ((rdK2 100 (getW xs (if okK 100 (q1, q2, q3) then mp (setCW xs w node (k1, k2, k3, k4, k5, k6, k7, k8, k9)) 0 (wrK (q1, q2, q3)).1 else setCW xs w node (k1, k2, k3, k4, k5, k6, k7, k8, k9)) 0)).2 == 0) = true then
                some ((((rdK2 100 (getW xs (if okK 100 (q1, q2, q3) then mp (setCW xs w node (k1, k2, k3, k4, k5, k6, k7, k8, k9)) 0 (wrK (q1, q2, q3)).1 else setCW xs w node (k1, k2, k3, k4, k5, k6, k7, k8, k9)) 0)).1.1 == q1) && (((rdK2 100 (getW xs (if okK 100 (q1, q2, q3) then mp (setCW xs w node (k1, k2, k3, k4, k5, k6, k7, k8, k9)) 0 (wrK (q1, q2, q3)).1 else setCW xs w node (k1, k2, k3, k4, k5, k6, k7, k8, k9)) 0)).1.2.1 == q2) && ((rdK2 100 (getW xs (if okK 100 (q1, q2, q3) then mp (setCW xs w node (k1, k2, k3, k4, k5, k6, k7, k8, k9)) 0 (wrK (q1, q2, q3)).1 else setCW xs w node (k1, k2, k3, k4, k5, k6, k7, k8, k9)) 0)).1.2.2 == q3))))
               else
                some false
              else
               some true) = some true := by
    intro _
    by_cases hK : okK 100 (q1, q2, q3)
    · have hg : rdK2 100 (getW xs (mp (setCW xs w node (k1, k2, k3, k4, k5, k6, k7, k8, k9)) 0 (wrK (q1, q2, q3)).1) 0) = ((q1, q2, q3), 0) := by
        rw [get_put, if_pos rfl]
        unfold rdK2
        rw [crown_back hK.1, if_pos ⟨rfl, hK.2⟩]
      simp only [if_pos hK, hg]
      rw [if_pos (by decide), if_pos (by decide)]
      simp
    · simp only [if_neg hK]
      rw [if_neg (by decide)]
  by_cases h0 : node ≥ 0
  · rw [if_pos (by simpa using h0)]
    by_cases h32 : node < 32
    · rw [if_pos (by simpa using h32), hrc, Option.bind_some]
      have he : setCE node (k1, k2, k3, k4, k5, k6, k7, k8, k9) = if rightC (k1, k2, k3, k4, k5, k6, k7, k8, k9) = true then 0 else 1 := by unfold setCE; rw [if_pos ⟨h0, h32⟩]
      rw [he, if_pos (by cases rightC (k1, k2, k3, k4, k5, k6, k7, k8, k9) <;> rfl)]
      exact tail (0, 0)
    · have he : setCE node (k1, k2, k3, k4, k5, k6, k7, k8, k9) = 5 := by unfold setCE; rw [if_neg (fun q => h32 q.2)]
      rw [if_neg (by simpa using h32), he, if_pos (by decide)]
      exact tail (0, 0)
  · have he : setCE node (k1, k2, k3, k4, k5, k6, k7, k8, k9) = 5 := by unfold setCE; rw [if_neg (fun q => h0 q.1)]
    rw [if_neg (by simpa using h0), he, if_pos (by decide)]
    exact tail (0, 0)

end Go.Proofs.YtiodpeekbeahlaaGreatDoor.Abs
