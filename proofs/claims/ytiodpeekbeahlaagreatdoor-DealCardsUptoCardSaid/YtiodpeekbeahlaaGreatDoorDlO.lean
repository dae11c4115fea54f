/- Deals: crowns and cards; the document's deal. Deals: step by step as the document says. -/
import Derived.Test.YtiodpeekbeahlaaGreatDoorDlH
namespace Go.Proofs.YtiodpeekbeahlaaGreatDoor.Abs
open Go
set_option linter.unusedVariables false
attribute [-simp] List.getD_eq_getElem?_getD

theorem rdK_len (s : Blk) : (rdK s).2 = 0 ∨ rdK s = ((0, 0, 0), 15) := by
  unfold rdK
  split
  · exact .inl rfl
  · exact .inr rfl

def rdK2 (n : Nat) (s : Blk) : Cr × Int := if (rdK s).2 = 0 ∧ (rdK s).1.2.1 ≤ (n : Int) then ((rdK s).1, 0) else ((0, 0, 0), 15)

theorem wrK_len {c : Cr} (h : rightK c = true) : (wrK c).1.length = 128 := by
  unfold wrK
  rw [if_pos h]
  exact wholeS_len _

def okK (n : Nat) (c : Cr) : Prop := rightK c = true ∧ c.2.1 ≤ (n : Int)
instance (n : Nat) (c : Cr) : Decidable (okK n c) := by unfold okK; exact inferInstance

/-- Where a card lies. -/
def slotB (node : Int) : Nat := 43 + node.toNat / 4
def slotK (node : Int) : Nat := node.toNat % 4
def pick (b : Blk) (k : Nat) : Blk := (b.take (32 * k + 32)).drop (32 * k)
def placeS (b : Blk) (k : Nat) (s : Blk) : Blk := b.take (32 * k) ++ s ++ b.drop (32 * k + 32)

theorem placeS_len {b s : Blk} {k : Nat} (hb : b.length = 128) (hk : k < 4) (hs : s.length = 32) : (placeS b k s).length = 128 := by
  unfold placeS
  simp [hb, hs]
  omega
theorem pick_len {b : Blk} {k : Nat} (hb : b.length = 128) (hk : k < 4) : (pick b k).length = 32 := by
  unfold pick
  simp [hb]
  omega

theorem crownCard_is (node : Int) : crown_Card node = some (if 0 ≤ node ∧ node < 32 then ((slotB node : Int), (slotK node : Int), 0) else (0, 0, 5)) := by
  unfold crown_Card
  by_cases h1 : node < 0
  · rw [if_neg (by simpa using h1), if_neg (by omega)]
  · rw [if_pos (by simpa using h1)]
    by_cases h2 : node ≥ 32
    · rw [if_pos (by simpa using h2), if_neg (by omega)]
    · rw [if_neg (by simpa using h2), if_pos (by omega)]
      have e1 : Int.tdiv node 4 = ((node.toNat / 4 : Nat) : Int) := by
        rw [Int.tdiv_eq_ediv_of_nonneg (by omega)]; omega
      have e2 : Int.tmod node 4 = ((node.toNat % 4 : Nat) : Int) := by
        rw [Int.tmod_eq_emod_of_nonneg (by omega)]; omega
      rw [e1, e2, wrap64 (n := ((node.toNat / 4 : Nat) : Int)) (by omega) (by omega), wrap64 (by omega) (by omega)]
      rfl

theorem cthere_is (b : Blk) (k : Nat) (hb : b.length = 128) (hk : k < 4) : cards_there (b, (k : Int)) = some true := by
  unfold cards_there
  dsimp only
  rw [if_pos (by simp [hb]), if_pos (by simp)]
  congr 1
  simp; omega

theorem wrap32 (k : Nat) (hk : k < 4) : IntKind.i64.wrap (32 * (k : Int)) = ((32 * k : Nat) : Int) ∧ IntKind.i64.wrap (((32 * k : Nat) : Int) + 32) = ((32 * k + 32 : Nat) : Int) :=
  ⟨by rw [wrap64 (by omega) (by omega)]; omega, by rw [wrap64 (by omega) (by omega)]; omega⟩

theorem pick_is (b : Blk) (k : Nat) (hb : b.length = 128) (hk : k < 4) : cards_Pick (b, (k : Int)) = some (pick b k, 0) := by
  obtain ⟨e1, e2⟩ := wrap32 k hk
  unfold cards_Pick
  dsimp only
  rw [cthere_is b k hb hk, Option.bind_some, if_neg (by decide), e1, e2, if_pos (by omega), Int.toNat_natCast, Int.toNat_natCast]
  rfl

theorem place_is (b : Blk) (k : Nat) (s : Blk) (hb : b.length = 128) (hk : k < 4) (hs : s.length = 32) : cards_Place (b, (k : Int), s) = some (placeS b k s, 0) := by
  obtain ⟨e1, e2⟩ := wrap32 k hk
  unfold cards_Place
  dsimp only
  rw [cthere_is b k hb hk, Option.bind_some, if_pos (by decide), if_neg (by simp [hs]), e1, e2, if_pos (by omega), Int.toNat_natCast, if_pos (by simp [hb, hs]; omega), if_pos (by omega), Int.toNat_natCast, if_pos (by simp [hb, hs]; omega)]
  rfl

theorem slot_there {n : Nat} (hn : 64 ≤ n) {node : Int} (h : 0 ≤ node ∧ node < 32) : thereS n (slotB node : Int) = true ∧ slotK node < 4 := by
  unfold thereS slotB slotK
  rw [decide_eq_true_eq]
  omega

def setCW (xs : List Blk) (w : Loo) (node : Int) (c : Card) : Loo := if (0 ≤ node ∧ node < 32) ∧ rightC c = true then mp w (slotB node : Int) (placeS (getW xs w (slotB node : Int)) (slotK node) (wrC c).1) else w
def setCE (node : Int) (c : Card) : Int := if 0 ≤ node ∧ node < 32 then (if rightC c = true then 0 else 1) else 5

/-! ### The deal's -/

section
variable {n : Nat} {xs : List Blk} (hf : Full n xs) (hn : 64 ≤ n) {w : Loo} (hw : WfW n w) (c u : Int) (p1 : Bool) (p2 : Int)
include hf hn hw

theorem crown_d : deal_Deal_Crown (((xs, [], c, u), p1, p2), w) = some (rdK2 n (getW xs w 0)) := by
  unfold deal_Deal_Crown rdK2
  rw [get_d hf.len w c u (p1, p2) 0 (by omega), Option.bind_some, crownRead_is _ (hf.get hw (by omega)), Option.bind_some]
  dsimp only
  rcases rdK_len (getW xs w 0) with h | h
  · rw [h, if_pos (by decide), size_d hf.len, Option.bind_some]
    by_cases hb : (rdK (getW xs w 0)).1.2.1 ≤ (n : Int)
    · rw [if_neg (by simpa using hb), if_pos ⟨rfl, hb⟩]
    · rw [if_pos (by simp; omega), if_neg (fun q => hb q.2)]
  · rw [h]
    rw [if_neg (by decide), if_neg (fun q => absurd q.1 (by decide))]

omit hf hn hw in
theorem crown0 (h : 64 ≤ n) : thereS n 0 = true := by
  unfold thereS
  rw [decide_eq_true_eq]
  omega

omit hw in
theorem setCrown_d (k : Cr) : deal_Deal_SetCrown (((p1, p2), w, (c, u), xs, []), k) = some (((p1, p2), if okK n k then mp w 0 (wrK k).1 else w, (c, u), xs, []), if okK n k then 0 else 1) := by
  unfold deal_Deal_SetCrown
  dsimp only
  rw [size_d hf.len, Option.bind_some]
  by_cases hb : k.2.1 ≤ (n : Int)
  · rw [if_neg (by simpa using hb), crownWrite_is, Option.bind_some]
    cases hr : rightK k with
    | false =>
      have h2 : wrK k = ([], 1) := by unfold wrK; rw [hr]; rfl
      rw [h2]
      dsimp only
      rw [if_pos (by decide), if_neg (fun q : okK n k => by have := q.1; rw [hr] at this; cases this), if_neg (fun q : okK n k => by have := q.1; rw [hr] at this; cases this)]
    | true =>
      have h2 : (wrK k).2 = 0 := by unfold wrK; rw [hr]; rfl
      have hl := wrK_len hr
      rw [h2, if_neg (by decide), write_d hf.len, Option.bind_some, if_pos ⟨crown0 hn, by omega⟩, if_pos ⟨crown0 hn, by omega⟩, if_pos (show okK n k from ⟨hr, hb⟩), if_pos (show okK n k from ⟨hr, hb⟩), wholeS_id _ hl]
  · rw [if_pos (by simp; omega), if_neg (fun q : okK n k => hb q.2), if_neg (fun q : okK n k => hb q.2)]

omit hw in
theorem place_d (node : Int) : deal_Deal_place ((((xs, [], c, u), p1, p2), w), node) = some (if 0 ≤ node ∧ node < 32 then ((slotB node : Int), getW xs w (slotB node : Int), (slotK node : Int), 0) else (0, [], 0, 5)) := by
  unfold deal_Deal_place
  dsimp only
  rw [crownCard_is, Option.bind_some]
  by_cases h : 0 ≤ node ∧ node < 32
  · rw [if_pos h, if_pos h]
    dsimp only
    have := there_i (slot_there hn h).1
    rw [if_neg (by decide), get_d hf.len w c u (p1, p2) _ (by omega)]
    rfl
  · rw [if_neg h, if_neg h]
    rfl

theorem card_d (node : Int) : deal_Deal_Card_1 (((p1, p2), w, (c, u), xs, []), node) = some (((p1, p2), w, (c, u), xs, []), if 0 ≤ node ∧ node < 32 then rdC (pick (getW xs w (slotB node : Int)) (slotK node)) else (zeroC, 5)) := by
  unfold deal_Deal_Card_1
  dsimp only
  rw [place_d hf hn, Option.bind_some]
  by_cases h : 0 ≤ node ∧ node < 32
  · rw [if_pos h, if_pos h]
    dsimp only
    obtain ⟨h1, h2⟩ := slot_there hn h
    have h1 := there_i h1
    rw [if_neg (by decide), pick_is _ _ (hf.get hw (by omega)) h2, Option.bind_some]
    dsimp only
    rw [if_neg (by decide), cards_Read_is]
    rfl
  · rw [if_neg h, if_neg h]
    rfl

theorem setCard_d (node : Int) (k : Card) (hk : lenD k) : deal_Deal_SetCard (((p1, p2), w, (c, u), xs, []), node, k) = some (((p1, p2), setCW xs w node k, (c, u), xs, []), setCE node k) := by
  unfold deal_Deal_SetCard setCW setCE
  dsimp only
  rw [place_d hf hn, Option.bind_some]
  by_cases h : 0 ≤ node ∧ node < 32
  · rw [if_pos h, if_pos h]
    dsimp only
    obtain ⟨h1, h2⟩ := slot_there hn h
    have h3 := there_i h1
    rw [if_neg (by decide), cards_Write_is k hk, Option.bind_some]
    cases hr : rightC k with
    | false =>
      have h2 : wrC k = ([], 1) := by unfold wrC; rw [hr]; rfl
      rw [h2]
      dsimp only
      rw [if_pos (by decide), if_neg (fun q => by cases q.2), if_neg (by decide)]
    | true =>
      have h4 : (wrC k).2 = 0 := by unfold wrC; rw [hr]; rfl
      have hl := wrC_len hr
      have hg := hf.get hw (i := (slotB node : Int)) (by omega)
      rw [h4, if_neg (by decide), place_is _ _ _ hg h2 hl, Option.bind_some]
      dsimp only
      have hpl := placeS_len hg h2 hl
      rw [if_neg (by decide), write_d hf.len, Option.bind_some, if_pos ⟨h1, by omega⟩, if_pos ⟨h1, by omega⟩, if_pos ⟨h, rfl⟩, if_pos rfl, wholeS_id _ hpl]
  · rw [if_neg h]
    dsimp only
    rw [if_pos (by decide), if_neg (fun q => h q.1), if_neg h]
end

/-! ### The document's -/

section
variable {n : Nat} {base now : List Blk} (hb : Full n base) (hf : Full n now) (hn : 64 ≤ n)
include hf

theorem rthere (i : Int) : rf12_Deal_there ((base, now), i) = some (thereS n i) := by
  have hl := hf.len
  unfold rf12_Deal_there thereS
  dsimp only
  by_cases h1 : i ≥ 0
  · rw [if_pos (by simpa using h1), hl]
    by_cases h2 : i < (n : Int)
    · rw [if_pos (by simpa using h2)]
      by_cases h3 : i < 1
      · rw [if_neg (by simpa using h3), decide_eq_true (show 0 ≤ i ∧ i < (n : Int) ∧ (i < 1 ∨ 41 < i) from ⟨h1, h2, .inl h3⟩)]
      · rw [if_pos (by simpa using h3)]
        congr 1
        exact decide_eq_decide.2 ⟨fun q => ⟨h1, h2, .inr q⟩, fun q => by omega⟩
    · rw [if_neg (by simpa using h2), decide_eq_false (by omega)]
  · rw [if_neg (by simpa using h1), decide_eq_false (by omega)]

theorem rread (i : Int) : rf12_Deal_Read ((base, now), i) = some (if thereS n i = true then (now.getD i.toNat [], 0) else ([], 1)) := by
  have hl := hf.len
  unfold rf12_Deal_Read
  dsimp only
  rw [rthere hf, Option.bind_some]
  cases h : thereS n i with
  | false => rfl
  | true =>
    have := there_i h
    rw [if_neg (by decide), if_pos (by omega), if_pos rfl]

theorem rwrite (i : Int) (data : Blk) : rf12_Deal_Write ((base, now), i, data) = some ((base, if thereS n i = true ∧ data.length ≤ 128 then now.set i.toNat (wholeS data) else now), if thereS n i = true ∧ data.length ≤ 128 then 0 else 1) := by
  have hl := hf.len
  unfold rf12_Deal_Write
  dsimp only
  rw [rthere hf, Option.bind_some]
  cases h : thereS n i with
  | false =>
    rw [if_neg (by decide), if_neg (fun q => by cases q.1), if_neg (fun q => by cases q.1)]
  | true =>
    have h3 := there_i h
    rw [if_pos (by decide)]
    by_cases hd : data.length ≤ 128
    · rw [if_neg (by simp; omega), refWhole_is, Option.bind_some, if_pos (by omega), if_pos ⟨rfl, hd⟩, if_pos ⟨rfl, hd⟩]
    · rw [if_pos (by simp; omega), if_neg (fun q => hd q.2), if_neg (fun q => hd q.2)]

include hn in
theorem rcrown : rf12_Deal_Crown (base, now) = some (rdK2 n (now.getD 0 [])) := by
  have hl := hf.len
  unfold rf12_Deal_Crown rdK2
  dsimp only
  rw [if_pos (by omega), refCrownRead_is _ (hf.2 0 (by omega)), Option.bind_some]
  rcases rdK_len (now.getD 0 []) with h | h
  · rw [h, if_pos (by decide), hl]
    by_cases hb : (rdK (now.getD 0 [])).1.2.1 ≤ (n : Int)
    · rw [if_neg (by simpa using hb), if_pos ⟨rfl, hb⟩]
    · rw [if_pos (by simp; omega), if_neg (fun q => hb q.2)]
  · rw [h]
    rw [if_neg (by decide), if_neg (fun q => absurd q.1 (by decide))]

include hn in
theorem rsetCrown (k : Cr) : rf12_Deal_SetCrown ((base, now), k) = some ((base, if okK n k then now.set 0 (wrK k).1 else now), if okK n k then 0 else 1) := by
  have hl := hf.len
  unfold rf12_Deal_SetCrown
  dsimp only
  rw [refCrownWrite_is, Option.bind_some]
  cases hr : rightK k with
  | false =>
    have h2 : wrK k = ([], 1) := by unfold wrK; rw [hr]; rfl
    rw [h2]
    dsimp only
    rw [if_neg (by decide), if_neg (fun q : okK n k => by have := q.1; rw [hr] at this; cases this), if_neg (fun q : okK n k => by have := q.1; rw [hr] at this; cases this)]
  | true =>
    have h2 : (wrK k).2 = 0 := by unfold wrK; rw [hr]; rfl
    rw [h2, if_pos (by decide), hl]
    by_cases hb : k.2.1 ≤ (n : Int)
    · rw [if_neg (by simpa using hb), if_pos (by omega), if_pos (show okK n k from ⟨hr, hb⟩), if_pos (show okK n k from ⟨hr, hb⟩)]
    · rw [if_pos (by simp; omega), if_neg (fun q : okK n k => hb q.2), if_neg (fun q : okK n k => hb q.2)]

omit hf in
theorem slot_wraps {node : Int} (h : 0 ≤ node ∧ node < 32) : IntKind.i64.wrap (43 + IntKind.i64.wrap (Int.tdiv node 4)) = (slotB node : Int) ∧ IntKind.i64.wrap (32 * Int.tmod node 4) = ((32 * slotK node : Nat) : Int) ∧ IntKind.i64.wrap (((32 * slotK node : Nat) : Int) + 32) = ((32 * slotK node + 32 : Nat) : Int) := by
  have e1 : Int.tdiv node 4 = ((node.toNat / 4 : Nat) : Int) := by
    rw [Int.tdiv_eq_ediv_of_nonneg (by omega)]; omega
  have e2 : Int.tmod node 4 = ((node.toNat % 4 : Nat) : Int) := by
    rw [Int.tmod_eq_emod_of_nonneg (by omega)]; omega
  unfold slotB slotK
  rw [e1, e2, wrap64 (n := ((node.toNat / 4 : Nat) : Int)) (by omega) (by omega), wrap64 (by omega) (by omega), wrap64 (by omega) (by omega), wrap64 (by omega) (by omega)]
  omega

include hn in
theorem rcard (node : Int) : rf12_Deal_Card_1 ((base, now), node) = some ((base, now), if 0 ≤ node ∧ node < 32 then rdC (pick (now.getD (slotB node) []) (slotK node)) else (zeroC, 5)) := by
  have hl := hf.len
  unfold rf12_Deal_Card_1
  dsimp only
  by_cases h1 : node < 0
  · rw [if_neg (by simpa using h1), if_neg (by omega)]
    rfl
  · rw [if_pos (by simpa using h1)]
    by_cases h2 : node ≥ 32
    · rw [if_pos (by simpa using h2), if_neg (by omega)]
      rfl
    · have h : 0 ≤ node ∧ node < 32 := by omega
      obtain ⟨e1, e2, e3⟩ := slot_wraps h
      obtain ⟨h3, h4⟩ := slot_there hn h
      have h3 := there_i h3
      have h5 := hf.2 (slotB node) (by omega)
      rw [if_neg (by simpa using h2), if_pos h, e1, e2, e3, if_pos (by omega), Int.toNat_natCast, if_pos (by omega), Int.toNat_natCast, Int.toNat_natCast, rf09_Read_is]
      rfl

def setCN (now : List Blk) (node : Int) (k : Card) : List Blk := if (0 ≤ node ∧ node < 32) ∧ rightC k = true then now.set (slotB node) (placeS (now.getD (slotB node) []) (slotK node) (wrC k).1) else now

include hn in
theorem rsetCard (node : Int) (k : Card) (hk : lenC k) : rf12_Deal_SetCard ((base, now), node, k) = some ((base, setCN now node k), setCE node k) := by
  have hl := hf.len
  unfold rf12_Deal_SetCard setCN setCE
  dsimp only
  by_cases h1 : node < 0
  · rw [if_neg (by simpa using h1), if_neg (fun q => absurd q.1 (by omega)), if_neg (by omega)]
  · rw [if_pos (by simpa using h1)]
    by_cases h2 : node ≥ 32
    · rw [if_pos (by simpa using h2), if_neg (fun q => absurd q.1 (by omega)), if_neg (by omega)]
    · have h : 0 ≤ node ∧ node < 32 := by omega
      obtain ⟨e1, e2, e3⟩ := slot_wraps h
      obtain ⟨h3, h4⟩ := slot_there hn h
      have h3 := there_i h3
      have h5 := hf.2 (slotB node) (by omega)
      rw [if_neg (by simpa using h2), refWrite_c k hk, Option.bind_some]
      cases hr : rightC k with
      | false =>
        have h2 : wrC k = ([], 1) := by unfold wrC; rw [hr]; rfl
        rw [h2]
        dsimp only
        rw [if_pos (by decide), if_neg (fun q => by cases q.2), if_pos h, if_neg (by decide)]
      | true =>
        have h6 : (wrC k).2 = 0 := by unfold wrC; rw [hr]; rfl
        have hl2 := wrC_len hr
        rw [h6, if_neg (by decide), e1, e2, e3, if_pos (by omega), Int.toNat_natCast, Int.toNat_natCast, Int.toNat_natCast, if_pos (by omega), if_pos (by simp [h5, hl2]; omega), if_pos (by omega), if_pos (by simp [h5, hl2]; omega), if_pos (by omega), if_pos ⟨h, rfl⟩, if_pos h, if_pos rfl]
        rfl

def neB (base now : List Blk) (i : Nat) : Bool := !(now.getD i [] == base.getD i [])
def chR (n : Nat) (base now : List Blk) : List Int := ((List.range n).filter (neB base now)).map fun (i : Nat) => (i : Int)

include hb in
theorem rchanged (hn2 : n ≤ 1000) : rf12_Deal_Changed_1 (base, now) = some ((base, now), chR n base now) := by
  have hl := hf.len
  have hl2 := hb.len
  have hfl : ∀ i, i ≤ n → (((List.range i).filter (neB base now)).map fun (i : Nat) => (i : Int)).length ≤ n := fun i hi => by
    rw [List.length_map]
    have := List.length_filter_le (neB base now) (List.range i)
    rw [List.length_range] at this
    omega
  have := loop_run (f := rf12_Deal_Changed_1.l1) (fun i => ((base, now, ((List.range i).filter (neB base now)).map fun (i : Nat) => (i : Int)), (i : Int))) (n := n) (r := (base, now, chR n base now)) (fun i hi => by
    have hfi := hfl i (by omega)
    unfold rf12_Deal_Changed_1.l1
    dsimp only
    rw [if_pos (by simp; omega), if_pos (by omega), if_pos (by omega), Int.toNat_natCast, List.range_succ, List.filter_append, List.map_append, wrap_succ (by omega)]
    have hne : (!(now.getD i [] == base.getD i [])) = neB base now i := rfl
    rw [hne]
    by_cases h : neB base now i = true
    · rw [if_pos h, if_pos (room (by decide) (by simp only [List.length_cons, List.length_nil]; omega)), List.filter_cons_of_pos h]
      rfl
    · rw [if_neg h, List.filter_cons_of_neg h]
      rw [List.filter_nil, List.map_nil, List.append_nil]) (by
    unfold rf12_Deal_Changed_1.l1
    dsimp only
    rw [if_neg (by simp; omega)]
    rfl)
  have this : loopO rf12_Deal_Changed_1.l1 ((base, now, []), 0) = _ := this
  unfold rf12_Deal_Changed_1
  dsimp only
  rw [this]
  rfl

include hb in
theorem rcommit (hn2 : n ≤ 1000) : rf12_Deal_Commit (base, now) = some (if (chR n base now).length > 40 then ((now, base), 13) else ((now, now), 0)) := by
  have hl := hf.len
  unfold rf12_Deal_Commit
  dsimp only
  rw [rchanged hb hf hn2, Option.bind_some]
  dsimp only
  by_cases h : (chR n base now).length > 40
  · rw [if_pos (by simp; omega), if_pos h]
  · rw [if_neg (by simp; omega), if_neg h, if_pos (room (by decide) (by simp; omega))]
    rfl

omit hf in
include hb in
theorem rundo (now : List Blk) (hn2 : n ≤ 1000) : rf12_Deal_Undo (base, now) = some (base, now, base) := by
  have hl := hb.len
  unfold rf12_Deal_Undo
  dsimp only
  rw [if_pos (room (by decide) (by simp; omega))]
  rfl
end

end Go.Proofs.YtiodpeekbeahlaaGreatDoor.Abs

namespace Go.Proofs.YtiodpeekbeahlaaGreatDoor.Abs
open Go
set_option linter.unusedVariables false
attribute [-simp] List.getD_eq_getElem?_getD

abbrev Op12 := Int × Int × Blk × Cr × Card

/-- The deal and the document's. -/
structure Rel (n : Nat) (xs : List Blk) (w : Loo) (base now : List Blk) : Prop where
  same : Lg.sameS xs base
  cur : ∀ i : Nat, i < n → now.getD i [] = if thereS n (i : Int) = true then getW xs w (i : Int) else base.getD i []

theorem own_there {n i : Nat} (hi : i < n) (h : thereS n (i : Int) = true) : Lg.ownS (i : Int) = false := by
  have := there_i h
  unfold Lg.ownS
  rw [decide_eq_false_iff_not]
  omega
theorem there_own {n i : Nat} (hi : i < n) (h : Lg.ownS (i : Int) = false) : thereS n (i : Int) = true := by
  unfold Lg.ownS at h
  rw [decide_eq_false_iff_not] at h
  unfold thereS
  rw [decide_eq_true_eq]
  omega

theorem getW_nil (xs : List Blk) (i : Int) : getW xs [] i = xs.getD i.toNat [] := rfl

theorem Rel.at {n : Nat} {xs : List Blk} {w : Loo} {base now : List Blk} (h : Rel n xs w base now) {i : Int} (hi : thereS n i = true) : now.getD i.toNat [] = getW xs w i := by
  have := there_i hi
  have := h.cur i.toNat (by omega)
  rw [show ((i.toNat : Nat) : Int) = i by omega, if_pos hi] at this
  exact this

theorem Rel.put {n : Nat} {xs : List Blk} {w : Loo} {base now : List Blk} (hf : Full n now) (h : Rel n xs w base now) {i : Int} (hi : thereS n i = true) (b : Blk) : Rel n xs (mp w i b) base (now.set i.toNat b) := by
  have h0 := there_i hi
  refine ⟨h.same, fun j hj => ?_⟩
  rw [Lg.setB, get_put, h.cur j hj, hf.len]
  by_cases e : i.toNat = j
  · rw [if_pos ⟨e, hj⟩, if_pos (show ((j : Nat) : Int) = i by omega), if_pos (by rw [show ((j : Nat) : Int) = i by omega]; exact hi)]
  · rw [if_neg (fun q => e q.1), if_neg (show ¬ ((j : Nat) : Int) = i by omega)]

theorem Rel.undo {n : Nat} {xs : List Blk} {w : Loo} {base now : List Blk} (hf : Full n xs) (h : Rel n xs w base now) : Rel n xs [] base base := by
  refine ⟨h.same, fun i hi => ?_⟩
  by_cases q : thereS n (i : Int) = true
  · rw [if_pos q, getW_nil, Int.toNat_natCast]
    exact (h.same.2 i (by rw [hf.len]; exact hi) (own_there hi q)).symm
  · rw [if_neg q]

theorem Rel.changed {n : Nat} {xs : List Blk} {w : Loo} {base now : List Blk} (hf : Full n xs) (hw : WfW n w) (h : Rel n xs w base now) : chR n base now = (chW n xs w).map (·.1) := by
  unfold chR chW
  rw [List.map_map]
  have : (List.range n).filter (neB base now) = (List.range n).filter (isCh xs w) := by
    refine List.filter_congr fun i hi => ?_
    have hi := List.mem_range.1 hi
    unfold neB isCh
    rw [h.cur i hi]
    by_cases q : thereS n (i : Int) = true
    · rw [if_pos q, ← h.same.2 i (by rw [hf.len]; exact hi) (own_there hi q)]
    · have q2 : thereS n (i : Int) = false := by simpa using q
      rw [if_neg q, get_own hw q2, Int.toNat_natCast]
      simp
  rw [this]
  rfl

theorem Full.putS {n : Nat} (ch : Loo) : ∀ {xs : List Blk}, Full n xs → (∀ x ∈ ch, x.2.length = 128) → Full n (Lg.putS xs ch) := by
  induction ch with
  | nil => intro xs h _; exact h
  | cons x ch ih =>
    intro xs h hc
    unfold Lg.putS at ih ⊢
    rw [List.foldl_cons]
    exact ih (h.set _ (hc x List.mem_cons_self)) (fun y hy => hc y (List.mem_cons_of_mem _ hy))

theorem chW_blk {n : Nat} {xs : List Blk} (hf : Full n xs) {w : Loo} (hw : WfW n w) : ∀ x ∈ chW n xs w, x.2.length = 128 := fun x hx => by
  unfold chW at hx
  obtain ⟨i, hi, rfl⟩ := List.mem_map.1 hx
  have := List.mem_range.1 (List.mem_filter.1 hi).1
  exact hf.get hw (by omega)

theorem Full.comm {n : Nat} {xs : List Blk} (hf : Full n xs) {w : Loo} (hw : WfW n w) (h40 : (chW n xs w).length ≤ 40) : Full n (Lg.commS xs (chW n xs w)) := by
  have hb := chW_blk hf hw
  unfold Lg.commS
  refine Full.set (Full.putS _ (Full.putS _ (Full.putS _ hf fun x hx => ?_) fun x hx => ?_) hb) 1 (by unfold Lg.zeroS; simp)
  · unfold Lg.loggedS at hx
    obtain ⟨k, hk, rfl⟩ := List.mem_map.1 hx
    have hk := List.mem_range.1 hk
    dsimp only
    rw [getD_lt hk]
    exact hb _ (List.getElem_mem hk)
  · rw [List.mem_singleton] at hx
    subst hx
    exact Lg.headS_len _ (by rw [List.length_map]; exact h40)

theorem put_same {n : Nat} {xs : List Blk} {w : Loo} {base now : List Blk} (hf : Full n xs) (hn : Full n now) (h : Rel n xs w base now) : Lg.sameS (Lg.putS xs (chW n xs w)) now := by
  refine ⟨by rw [Lg.putS_len, hf.len, hn.len], fun i hi ho => ?_⟩
  rw [Lg.putS_len, hf.len] at hi
  rw [put_get hf.len w i hi, h.cur i hi, if_pos (there_own hi ho)]

theorem Rel.fresh {n : Nat} {xs now : List Blk} (hl : xs.length = n) (h : Lg.sameS xs now) : Rel n xs [] now now := by
  refine ⟨h, fun i hi => ?_⟩
  by_cases q : thereS n (i : Int) = true
  · rw [if_pos q, getW_nil, Int.toNat_natCast]
    exact (h.2 i (by rw [hl]; exact hi) (own_there hi q)).symm
  · rw [if_neg q]

theorem tmod_nat (x : Int) (k : Nat) (h0 : 0 < k) (h1 : k ≤ 1000) : ∃ M : Nat, M < k ∧ IntKind.i64.wrap (Int.tmod (IntKind.u64.wrap x) (k : Int)) = (M : Int) := by
  have hu : 0 ≤ IntKind.u64.wrap x := by
    simp only [IntKind.wrap, IntKind.signed, IntKind.bits]
    simp
    omega
  have a := Int.tmod_nonneg (k : Int) hu
  have b := Int.tmod_lt_of_pos (IntKind.u64.wrap x) (show (0 : Int) < (k : Int) by omega)
  exact ⟨(Int.tmod (IntKind.u64.wrap x) (k : Int)).toNat, by omega, by rw [wrap64 (by omega) (by omega)]; omega⟩

theorem kind_is (o : Op12) : ∃ k : Nat, k < 7 ∧ lw12_Op_kind o = some (k : Int) := by
  obtain ⟨k, h1, h2⟩ := tmod_nat o.1 7 (by decide) (by decide)
  exact ⟨k, h1, by rw [← h2]; rfl⟩

theorem rdC_len (s : List UInt8) : lenC (rdC s).1 := by
  have hc : lenC (cardOf s) := by
    unfold cardOf
    dsimp only
    split
    · exact ⟨by simp; omega, by simp⟩
    · split
      · exact ⟨by simp, by simp; omega⟩
      · exact ⟨by simp [zeroC], by simp [zeroC]⟩
  unfold rdC
  split
  · exact hc
  · exact ⟨by simp [zeroC], by simp [zeroC]⟩

/-- How it stands with a deal. -/
structure Ok12 (n m : Nat) (k c : Int) (xs : List Blk) (w : Loo) : Prop where
  full : Full n xs
  wf : WfW n w
  okay : Okay n m ((c, -1), xs, [])
  seq : 0 ≤ k ∧ k ≤ (m : Int)

theorem Ok12.mono {n m m' : Nat} {k c : Int} {xs : List Blk} {w : Loo} (h : Ok12 n m k c xs w) (h1 : m ≤ m') (h2 : m' ≤ 100000) : Ok12 n m' k c xs w :=
  ⟨h.full, h.wf, h.okay.mono h1 h2, by have := h.seq; omega⟩
theorem Ok12.with {n m : Nat} {k c : Int} {xs : List Blk} {w w' : Loo} (h : Ok12 n m k c xs w) (hw : WfW n w') : Ok12 n m k c xs w' :=
  ⟨h.full, hw, h.okay, h.seq⟩

theorem okK_put {n : Nat} (hn : 64 ≤ n) {w : Loo} (hw : WfW n w) (q : Cr) : WfW n (if okK n q then mp w 0 (wrK q).1 else w) := by
  by_cases h : okK n q
  · rw [if_pos h]; exact hw.put (crown0 hn) (wrK_len h.1)
  · rw [if_neg h]; exact hw
theorem setCW_wf {n : Nat} (hn : 64 ≤ n) {xs : List Blk} (hf : Full n xs) {w : Loo} (hw : WfW n w) (node : Int) (q : Card) : WfW n (setCW xs w node q) := by
  unfold setCW
  by_cases h : (0 ≤ node ∧ node < 32) ∧ rightC q = true
  · obtain ⟨h1, h2⟩ := slot_there hn h.1
    have := there_i h1
    rw [if_pos h]
    exact hw.put h1 (placeS_len (hf.get hw (by omega)) h2 (wrC_len h.2))
  · rw [if_neg h]; exact hw

theorem step_is {n m : Nat} {k c : Int} {xs base now : List Blk} {w : Loo} (h : Ok12 n m k c xs w) (hn : 64 ≤ n) (hm : m + 200 ≤ 100000) (hb : Full n base) (hf : Full n now) (o : Op12) (ho : lenD o.2.2.2.2) :
    ∃ (k' c' : Int) (xs' : List Blk) (w' : Loo) (base' now' : List Blk) (b : Bool), lw12_step (((false, k), w, base, now, (c, -1), xs, []), o) = some (((false, k'), w', (c', -1), xs', [], base', now'), b) ∧
      Ok12 n (m + 86) k' c' xs' w' ∧ Full n base' ∧ Full n now' ∧ (lw12_Op_kind o ≠ some 6 → k' = k ∧ c' = c ∧ xs' = xs) ∧ (Rel n xs w base now → b = true ∧ Rel n xs' w' base' now') := by
  obtain ⟨kd, hkd, hk⟩ := kind_is o
  have hx := h.full
  have hw := h.wf
  have hr := h.okay.room
  have hmono := h.mono (m' := m + 86) (by omega) (by omega)
  unfold lw12_step
  dsimp only
  rw [hk, Option.bind_some]
  have h06 : kd = 0 ∨ kd = 1 ∨ kd = 2 ∨ kd = 3 ∨ kd = 4 ∨ kd = 5 ∨ kd = 6 := by omega
  rcases h06 with rfl | rfl | rfl | rfl | rfl | rfl | rfl
  · rw [if_pos (by decide), read_d hx.len w c (-1) (false, k), Option.bind_some, rread hf, Option.bind_some]
    refine ⟨k, c, xs, w, base, now, decide ((if thereS n o.2.1 = true then (getW xs w o.2.1, (0 : Int)) else ([], 1)) = (if thereS n o.2.1 = true then (now.getD o.2.1.toNat [], 0) else ([], 1))), ?_, hmono, hb, hf, fun _ => ⟨rfl, rfl, rfl⟩, fun q => ⟨?_, q⟩⟩
    · by_cases ht : thereS n o.2.1 = true
      · rw [if_pos ht, if_pos ht]
        dsimp only
        by_cases e : getW xs w o.2.1 = now.getD o.2.1.toNat []
        · rw [if_pos (by simp [e]), e]; simp
        · rw [if_neg (by simp [e])]; simp [e]
      · rw [if_neg ht, if_neg ht]
        simp
    · rw [decide_eq_true_eq]
      by_cases ht : thereS n o.2.1 = true
      · rw [if_pos ht, if_pos ht, q.at ht]
      · rw [if_neg ht, if_neg ht]
  · rw [if_neg (by decide), if_pos (by decide), write_d hx.len, Option.bind_some, rwrite hf, Option.bind_some]
    dsimp only
    refine ⟨k, c, xs, _, base, _, _, rfl, hmono.with ?_, hb, ?_, fun _ => ⟨rfl, rfl, rfl⟩, fun q => ⟨by simp, ?_⟩⟩
    · by_cases ht : thereS n o.2.1 = true ∧ o.2.2.1.length ≤ 128
      · rw [if_pos ht]; exact hw.put ht.1 (wholeS_len _)
      · rw [if_neg ht]; exact hw
    · by_cases ht : thereS n o.2.1 = true ∧ o.2.2.1.length ≤ 128
      · rw [if_pos ht]; exact hf.set _ (wholeS_len _)
      · rw [if_neg ht]; exact hf
    · by_cases ht : thereS n o.2.1 = true ∧ o.2.2.1.length ≤ 128
      · rw [if_pos ht, if_pos ht]; exact q.put hf ht.1 _
      · rw [if_neg ht, if_neg ht]; exact q
  · rw [if_neg (by decide), if_neg (by decide), if_pos (by decide), setCrown_d hx hn, Option.bind_some, rsetCrown hf hn, Option.bind_some]
    dsimp only
    refine ⟨k, c, xs, _, base, _, _, rfl, hmono.with (okK_put hn hw _), hb, ?_, fun _ => ⟨rfl, rfl, rfl⟩, fun q => ⟨by simp, ?_⟩⟩
    · by_cases ht : okK n o.2.2.2.1
      · rw [if_pos ht]; exact hf.set _ (wrK_len ht.1)
      · rw [if_neg ht]; exact hf
    · by_cases ht : okK n o.2.2.2.1
      · rw [if_pos ht, if_pos ht]; exact q.put hf (i := 0) (crown0 hn) _
      · rw [if_neg ht, if_neg ht]; exact q
  · rw [if_neg (by decide), if_neg (by decide), if_neg (by decide), if_pos (by decide), crown_d hx hn hw, Option.bind_some, rcrown hf hn, Option.bind_some]
    rw [card_d hx hn hw, Option.bind_some]
    dsimp only
    rw [rcard hf hn, Option.bind_some]
    dsimp only
    have hlc : lenC (if 0 ≤ o.2.1 ∧ o.2.1 < 32 then rdC (pick (getW xs w (slotB o.2.1 : Int)) (slotK o.2.1)) else (zeroC, (5 : Int))).1 := by
      split
      · exact rdC_len _
      · exact ⟨by simp [zeroC], by simp [zeroC]⟩
    rw [refCSame_is _ _ hlc]
    refine ⟨k, c, xs, w, base, now, decide (rdK2 n (getW xs w 0) = rdK2 n (now.getD 0 [])) && decide ((if 0 ≤ o.2.1 ∧ o.2.1 < 32 then rdC (pick (getW xs w (slotB o.2.1 : Int)) (slotK o.2.1)) else (zeroC, (5 : Int))) = (if 0 ≤ o.2.1 ∧ o.2.1 < 32 then rdC (pick (now.getD (slotB o.2.1) []) (slotK o.2.1)) else (zeroC, 5))), ?_, hmono, hb, hf, fun _ => ⟨rfl, rfl, rfl⟩, fun q => ⟨?_, q⟩⟩
    · generalize rdK2 n (getW xs w 0) = a1
      generalize rdK2 n (now.getD 0 []) = a2
      generalize (if 0 ≤ o.2.1 ∧ o.2.1 < 32 then rdC (pick (getW xs w (slotB o.2.1 : Int)) (slotK o.2.1)) else (zeroC, (5 : Int))) = b1
      generalize (if 0 ≤ o.2.1 ∧ o.2.1 < 32 then rdC (pick (now.getD (slotB o.2.1) []) (slotK o.2.1)) else (zeroC, (5 : Int))) = b2
      obtain ⟨⟨x1, x2, x3⟩, x4⟩ := a1
      obtain ⟨⟨y1, y2, y3⟩, y4⟩ := a2
      obtain ⟨u1, u2⟩ := b1
      obtain ⟨v1, v2⟩ := b2
      dsimp only
      rw [Option.bind_some]
      have e1 : (x1 == y1 && (x2 == y2 && x3 == y3)) = decide (x1 = y1 ∧ x2 = y2 ∧ x3 = y3) := by
        rw [Bool.eq_iff_iff]; simp
      have e2 : (x4 == y4) = decide (x4 = y4) := by
        rw [Bool.eq_iff_iff]; simp
      have e3 : (u2 == v2) = decide (u2 = v2) := by
        rw [Bool.eq_iff_iff]; simp
      rw [e1, e2, e3]
      have e4 : decide (((x1, x2, x3), x4) = ((y1, y2, y3), y4)) = (decide (x1 = y1 ∧ x2 = y2 ∧ x3 = y3) && decide (x4 = y4)) := by
        rw [Bool.eq_iff_iff]; simp [and_assoc]
      have e5 : decide ((u1, u2) = (v1, v2)) = (decide (u1 = v1) && decide (u2 = v2)) := by
        rw [Bool.eq_iff_iff]; simp
      rw [e4, e5]
      by_cases q1 : x1 = y1 ∧ x2 = y2 ∧ x3 = y3
      · rw [if_pos (decide_eq_true q1), decide_eq_true q1, Bool.true_and]
        by_cases q2 : x4 = y4
        · rw [if_pos (decide_eq_true q2), decide_eq_true q2, Bool.true_and]
          by_cases q3 : u1 = v1
          · rw [if_pos (decide_eq_true q3), decide_eq_true q3, Bool.true_and]
          · rw [if_neg (by simpa using q3), decide_eq_false q3, Bool.false_and]
        · rw [if_neg (by simpa using q2), decide_eq_false q2, Bool.false_and]
      · rw [if_neg (by simpa using q1), decide_eq_false q1, Bool.false_and, Bool.false_and]
    · have e0 : getW xs w 0 = now.getD 0 [] := (q.at (crown0 hn)).symm
      rw [e0, Bool.and_eq_true, decide_eq_true_eq, decide_eq_true_eq]
      refine ⟨rfl, ?_⟩
      by_cases hs : 0 ≤ o.2.1 ∧ o.2.1 < 32
      · have := q.at (slot_there hn hs).1
        rw [Int.toNat_natCast] at this
        rw [if_pos hs, if_pos hs, this]
      · rw [if_neg hs, if_neg hs]
  · rw [if_neg (by decide), if_neg (by decide), if_neg (by decide), if_neg (by decide), if_pos (by decide), setCard_d hx hn hw _ _ _ _ _ _ ho, Option.bind_some]
    dsimp only
    rw [rsetCard hf hn _ _ ho.c, Option.bind_some]
    dsimp only
    refine ⟨k, c, xs, _, base, _, _, rfl, hmono.with (setCW_wf hn hx hw _ _), hb, ?_, fun _ => ⟨rfl, rfl, rfl⟩, fun q => ⟨by simp, ?_⟩⟩
    · unfold setCN
      by_cases hs : (0 ≤ o.2.1 ∧ o.2.1 < 32) ∧ rightC o.2.2.2.2 = true
      · obtain ⟨h1, h2⟩ := slot_there hn hs.1
        have := there_i h1
        rw [if_pos hs]
        exact hf.set _ (placeS_len (hf.2 _ (by omega)) h2 (wrC_len hs.2))
      · rw [if_neg hs]; exact hf
    · unfold setCN setCW
      by_cases hs : (0 ≤ o.2.1 ∧ o.2.1 < 32) ∧ rightC o.2.2.2.2 = true
      · have h1 := (slot_there hn hs.1).1
        have h2 := q.at h1
        rw [Int.toNat_natCast] at h2
        rw [if_pos hs, if_pos hs, h2]
        exact q.put hf h1 _
      · rw [if_neg hs, if_neg hs]; exact q
  · rw [if_neg (by decide), if_neg (by decide), if_neg (by decide), if_neg (by decide), if_neg (by decide), if_pos (by decide), undo_d, Option.bind_some]
    dsimp only
    rw [rundo hb now hr.1, Option.bind_some]
    exact ⟨k, c, xs, [], base, base, true, rfl, hmono.with (WfW.nil n), hb, hb, fun _ => ⟨rfl, rfl, rfl⟩, fun q => ⟨rfl, q.undo hx⟩⟩
  · have hsq := h.seq
    obtain ⟨c1, c2⟩ := commit_d (k := k) hx h.okay hn (by omega) (by omega) hw
    rw [if_neg (by decide), if_neg (by decide), if_neg (by decide), if_neg (by decide), if_neg (by decide), if_neg (by decide), c1, Option.bind_some]
    rw [rcommit hb hf hr.1, Option.bind_some]
    by_cases h40 : (chW n xs w).length > 40
    · rw [if_pos h40]
      dsimp only
      by_cases hR : (chR n base now).length > 40
      · rw [if_pos hR]
        exact ⟨k, c, xs, w, base, now, true, rfl, hmono, hb, hf, fun q => absurd rfl q, fun q => ⟨rfl, q⟩⟩
      · rw [if_neg hR]
        refine ⟨k, c, xs, w, now, now, false, rfl, hmono, hf, hf, fun q => absurd rfl q, fun q => ?_⟩
        rw [q.changed hx hw, List.length_map] at hR
        exact absurd h40 hR
    · rw [if_neg h40]
      by_cases hnil : chW n xs w = []
      · rw [if_pos hnil]
        dsimp only
        by_cases hR : (chR n base now).length > 40
        · rw [if_pos hR]
          refine ⟨k, c, xs, [], base, now, false, rfl, hmono.with (WfW.nil n), hb, hf, fun q => absurd rfl q, fun q => ?_⟩
          rw [q.changed hx hw, List.length_map] at hR
          exact absurd hR h40
        · rw [if_neg hR]
          refine ⟨k, c, xs, [], now, now, true, rfl, hmono.with (WfW.nil n), hf, hf, fun q => absurd rfl q, fun q => ⟨rfl, Rel.fresh hx.len ?_⟩⟩
          have := put_same hx hf q
          rw [hnil] at this
          exact this
      · rw [if_neg hnil]
        dsimp only
        have h40' : (chW n xs w).length ≤ 40 := by omega
        have ok2 : Ok12 n (m + 86) (k + 1) (c + 2 * (chW n xs w).length + 6) (Lg.commS xs (chW n xs w)) [] := ⟨hx.comm hw h40', WfW.nil n, c2 h40' hnil, by omega⟩
        by_cases hR : (chR n base now).length > 40
        · rw [if_pos hR]
          refine ⟨_, _, _, [], base, now, false, rfl, ok2, hb, hf, fun q => absurd rfl q, fun q => ?_⟩
          rw [q.changed hx hw, List.length_map] at hR
          exact absurd hR h40
        · rw [if_neg hR]
          exact ⟨_, _, _, [], now, now, true, rfl, ok2, hf, hf, fun q => absurd rfl q, fun q => ⟨rfl, Rel.fresh (hx.comm hw h40').len ((Lg.comm_same (Lg.sameS.refl xs) _ h40').trans (put_same hx hf q))⟩⟩

end Go.Proofs.YtiodpeekbeahlaaGreatDoor.Abs
