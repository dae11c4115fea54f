/- Chains: lists are written; what is saved is loaded. -/
import Derived.Test.YtlbammfnkphajaaGreatDoorChD
namespace Go.Proofs.YtlbammfnkphajaaGreatDoor.Abs
open Go
set_option linter.unusedVariables false
attribute [-simp] List.getD_eq_getElem?_getD

/-! ### A list's block -/

def smallL (l : List Int) : Prop := l.length = 8 ∧ ∀ x ∈ l, 0 ≤ x ∧ x ≤ 65535
def ladB (l : List Int) : Blk := encT (List.replicate 8 2) l ++ List.replicate 112 0

theorem fitR : ∀ (k : Nat) (l : List Int), l.length = k → (∀ x ∈ l, 0 ≤ x ∧ x ≤ 65535) → fitW (List.replicate k 2) l = true
  | 0, [], _, _ => rfl
  | 0, _ :: _, h, _ => by simp at h
  | _ + 1, [], h, _ => by simp at h
  | k + 1, x :: l, h, hs => by
    have h1 := hs x List.mem_cons_self
    have h2 := fitR k l (by simpa using h) (fun y hy => hs y (List.mem_cons_of_mem _ hy))
    rw [List.replicate_succ, fitW, h2, Bool.and_true, decide_eq_true_eq]
    simp only [lim]
    simp
    omega

theorem fit8 {l : List Int} (h : smallL l) : fitW (List.replicate 8 2) l = true := fitR 8 l h.1 h.2
theorem enc16 {l : List Int} (h : smallL l) : (encT (List.replicate 8 2) l).length = 16 := by rw [encT_len _ _ (fit8 h)]; rfl
theorem ladB_len {l : List Int} (h : smallL l) : (ladB l).length = 128 := by unfold ladB; rw [List.length_append, enc16 h, List.length_replicate]

theorem ladR_B {l : List Int} (h : smallL l) : ladR (ladB l) = l := by
  have hl := ladB_len h
  have h1 := rd8 (ladB l) (by omega)
  rw [mould_Read_is _ _ (by decide), rd_ok _ _ (by decide) (by rw [hl]; decide)] at h1
  obtain ⟨e, e1, e2⟩ := enc_fit _ _ (fit8 h)
  have h2 := rdS_enc (List.replicate 8 2) l e (List.replicate 112 0) (by decide) (by rw [List.length_replicate, h.1]) e1
  rw [e2] at h2
  have h3 : rdS (List.replicate 8 2) (ladB l) = ladR (ladB l) := congrArg Prod.fst (Option.some.inj h1)
  rw [← h3]
  exact h2

theorem ladOk_B {l : List Int} (h : smallL l) : ladOk (ladB l) = true := by
  unfold ladOk ladB
  rw [List.drop_append_of_le_length (by rw [enc16 h]; decide), List.drop_of_length_le (by rw [enc16 h]; decide), List.nil_append]
  exact zeros_repl 112

theorem lwrite1_s {l : List Int} (h : smallL l) : ladder_Write_1 l = some (ladB l, 0) := by
  unfold ladder_Write_1
  rw [widths_is, Option.bind_some, mould_Write_is _ _ (by decide) (by rw [h.1]; decide), wr_fit _ _ (by decide) (fit8 h), Option.bind_some]
  dsimp only
  rw [if_neg (by decide), pad_is _ (by rw [enc16 h]; decide), Option.bind_some, enc16 h]
  rfl
/-! ### Blocks that are new -/

/-- From one disk to the next: blocks that were free are in use, and only they were written. -/
structure Grown (n : Nat) (xs : List Blk) (w w' : Loo) (bs : List Int) : Prop where
  disk : Disk 1 n xs w'
  own : ∀ b ∈ bs, ownI n b = true ∧ isM (mkW xs w) b = false
  nodup : bs.Nodup
  used : ∀ q : Int, isM (mkW xs w') q = if q ∈ bs then true else isM (mkW xs w) q
  rest : ∀ j : Int, j ≠ 42 → j ∉ bs → getW xs w' j = getW xs w j
  free : freeS n (mkW xs w') + bs.length = freeS n (mkW xs w)

theorem Grown.nil {n : Nat} {xs : List Blk} {w : Loo} (h : Disk 1 n xs w) : Grown n xs w w [] :=
  ⟨h, (fun b hb => by cases hb), List.nodup_nil, (fun q => by rw [if_neg (by simp)]), (fun _ _ _ => rfl), rfl⟩

theorem Grown.trans {n : Nat} {xs : List Blk} {w w1 w2 : Loo} {cs bs : List Int} (h1 : Grown n xs w w1 cs) (h2 : Grown n xs w1 w2 bs) : Grown n xs w w2 (cs ++ bs) := by
  have key : ∀ b ∈ bs, b ∉ cs ∧ isM (mkW xs w) b = false := fun b hb => by
    have := (h2.own b hb).2
    rw [h1.used] at this
    by_cases q : b ∈ cs
    · rw [if_pos q] at this; cases this
    · rw [if_neg q] at this; exact ⟨q, this⟩
  refine ⟨h2.disk, fun b hb => ?_, List.nodup_append.2 ⟨h1.nodup, h2.nodup, fun a ha b hb e => (key b hb).1 (by rw [← e]; exact ha)⟩, fun q => ?_, fun j j1 j2 => ?_, ?_⟩
  · rcases List.mem_append.1 hb with hb | hb
    · exact h1.own b hb
    · exact ⟨(h2.own b hb).1, (key b hb).2⟩
  · rw [h2.used, h1.used]
    by_cases a : q ∈ bs
    · rw [if_pos a, if_pos (List.mem_append.2 (.inr a))]
    · rw [if_neg a]
      by_cases b : q ∈ cs
      · rw [if_pos b, if_pos (List.mem_append.2 (.inl b))]
      · rw [if_neg b, if_neg (fun x => (List.mem_append.1 x).elim b a)]
  · rw [h2.rest j j1 (fun q => j2 (List.mem_append.2 (.inr q))), h1.rest j j1 (fun q => j2 (List.mem_append.2 (.inl q)))]
  · have a := h1.free
    have b := h2.free
    rw [List.length_append]
    omega

theorem own_bounds {n : Nat} {b : Int} (h : ownI n b = true) : 51 ≤ b ∧ b < (n : Int) := by
  unfold ownI at h
  rw [decide_eq_true_eq] at h
  exact h

theorem Grown.take {n : Nat} {xs : List Blk} {w : Loo} (h : Disk 1 n xs w) {a : Nat} (h1 : 51 ≤ a) (h2 : a < n) (h3 : isM (mkW xs w) (a : Int) = false) : Grown n xs w (takeW xs w a) [(a : Int)] := by
  have hr := h.room
  have hft := freeS_take h.mlen hr.2 h1 h2 h3
  rw [← take_mk] at hft
  refine ⟨h.take h1 h2, fun b hb => ?_, by simp, fun q => ?_, fun j j1 j2 => ?_, hft⟩
  · rcases List.mem_singleton.1 hb with rfl
    exact ⟨by unfold ownI; rw [decide_eq_true_eq]; omega, h3⟩
  · rw [isM_take h h1 h2]
    simp only [List.mem_singleton]
  · rw [take_get, if_neg j1, if_neg (fun e => j2 (by rw [e]; exact List.mem_singleton.2 rfl))]

theorem Grown.write {n : Nat} {xs : List Blk} {w w1 : Loo} {bs : List Int} (h : Grown n xs w w1 bs) {b : Int} (hb : b ∈ bs) {s : Blk} (hs : s.length = 128) : Grown n xs w (mp w1 b s) bs := by
  have ho := own_bounds (h.own b hb).1
  have hm : mkW xs (mp w1 b s) = mkW xs w1 := by
    unfold mkW
    rw [get_put, if_neg (by omega)]
  exact ⟨h.disk.put (there_own b ho) (by omega) hs, h.own, h.nodup, (fun q => by rw [hm]; exact h.used q), (fun j j1 j2 => by rw [get_put, if_neg (fun e => j2 (by rw [e]; exact hb))]; exact h.rest j j1 j2), by rw [hm]; exact h.free⟩

/-! ### A list is put -/

def layL (xs : List Blk) (n : Nat) (w : Loo) (l : List Int) : Loo × Int :=
  if l.isEmpty = true then (w, 0) else
    match firstF (mkW xs w) n with
    | some a => (mp (takeW xs w a) (a : Int) (ladB l), (a : Int))
    | none => (w, 0)

def nz (bs : List Int) : List Int := bs.filter fun b => b != 0
def At (g : Int → Blk) (n : Nat) (l : List Int) (b : Int) : Prop := (l = [] ∧ b = 0) ∨ (l ≠ [] ∧ ownI n b = true ∧ g b = ladB l)

theorem own_ne {n : Nat} {b : Int} (h : ownI n b = true) : b ≠ 0 := by have := own_bounds h; omega

theorem put_ok {n : Nat} {xs : List Blk} {w : Loo} (h : Disk 1 n xs w) (l : List Int) (hl : l = [] ∨ smallL l) (hf : l = [] ∨ 0 < freeS n (mkW xs w)) :
    Grown n xs w (layL xs n w l).1 (nz [(layL xs n w l).2]) ∧ At (getW xs (layL xs n w l).1) n l (layL xs n w l).2 := by
  rcases hl with rfl | hl
  · exact ⟨Grown.nil h, .inl ⟨rfl, rfl⟩⟩
  · have hne : l ≠ [] := fun e => by have := hl.1; rw [e] at this; simp at this
    obtain ⟨a, ha, a1, a2, a3⟩ := firstF_some (hf.resolve_left hne)
    have e : layL xs n w l = (mp (takeW xs w a) (a : Int) (ladB l), (a : Int)) := by
      unfold layL
      rw [if_neg (by simpa using hne), ha]
    have hg := (Grown.take h a1 a2 a3).write List.mem_cons_self (ladB_len hl)
    have ho : ownI n (a : Int) = true := by unfold ownI; rw [decide_eq_true_eq]; omega
    have hz : nz [(a : Int)] = [(a : Int)] := by
      unfold nz
      rw [List.filter_cons_of_pos (by simp; omega)]
      rfl
    rw [e]
    refine ⟨by rw [hz]; exact hg, .inr ⟨hne, ho, ?_⟩⟩
    rw [get_put, if_pos rfl]

def laysL (xs : List Blk) (n : Nat) : Loo → List (List Int) → Loo × List Int
  | w, [] => (w, [])
  | w, l :: ls => ((laysL xs n (layL xs n w l).1 ls).1, (layL xs n w l).2 :: (laysL xs n (layL xs n w l).1 ls).2)

def laidL (g : Int → Blk) (n : Nat) : List (List Int) → List Int → Prop
  | [], [] => True
  | l :: ls, b :: bs => At g n l b ∧ laidL g n ls bs
  | _, _ => False

theorem At.frame {g g' : Int → Blk} {n : Nat} {l : List Int} {b : Int} (h : At g n l b) (hg : b ≠ 0 → g' b = g b) : At g' n l b := by
  rcases h with h | ⟨h1, h2, h3⟩
  · exact .inl h
  · exact .inr ⟨h1, h2, (hg (own_ne h2)).trans h3⟩

theorem laidL.frame {g g' : Int → Blk} {n : Nat} : ∀ {ls : List (List Int)} {bs : List Int}, laidL g n ls bs → (∀ b ∈ bs, b ≠ 0 → g' b = g b) → laidL g' n ls bs
  | [], [], _, _ => trivial
  | [], _ :: _, h, _ => h.elim
  | _ :: _, [], h, _ => h.elim
  | l :: ls, b :: bs, h, hg => ⟨h.1.frame (hg b List.mem_cons_self), laidL.frame h.2 fun c hc => hg c (List.mem_cons_of_mem _ hc)⟩

theorem nz_cons (b : Int) (bs : List Int) : nz (b :: bs) = nz [b] ++ nz bs := by
  unfold nz
  rw [← List.filter_append]
  rfl

theorem laid_count {g : Int → Blk} {n : Nat} : ∀ {ls : List (List Int)} {bs : List Int}, laidL g n ls bs → (nz bs).length = cntL ls ∧ bs.length = ls.length
  | [], [], _ => ⟨rfl, rfl⟩
  | [], _ :: _, h => h.elim
  | _ :: _, [], h => h.elim
  | l :: ls, b :: bs, h => by
    obtain ⟨h1, h2⟩ := laid_count h.2
    rw [nz_cons, List.length_append, h1]
    refine ⟨?_, by rw [List.length_cons, List.length_cons, h2]⟩
    unfold cntL
    rcases h.1 with ⟨rfl, rfl⟩ | ⟨hl, ho, _⟩
    · rw [List.filter_cons_of_neg (by simp), show (nz [0]).length = 0 from rfl, Nat.zero_add]
    · have hb := own_ne ho
      rw [show nz [b] = [b] by unfold nz; rw [List.filter_cons_of_pos (by simpa using hb)]; rfl, List.filter_cons_of_pos (by simpa using hl)]
      simp
      omega

theorem puts_ok {n : Nat} {xs : List Blk} : ∀ (ls : List (List Int)) (w : Loo), Disk 1 n xs w → (∀ l ∈ ls, l = [] ∨ smallL l) → cntL ls ≤ freeS n (mkW xs w) →
    Grown n xs w (laysL xs n w ls).1 (nz (laysL xs n w ls).2) ∧ laidL (getW xs (laysL xs n w ls).1) n ls (laysL xs n w ls).2
  | [], w, h, _, _ => ⟨Grown.nil h, trivial⟩
  | l :: ls, w, h, hl, hf => by
    have hc : cntL (l :: ls) = cntL [l] + cntL ls := by
      unfold cntL
      rw [← List.length_append, ← List.filter_append]
      rfl
    have h0 : l = [] ∨ 0 < freeS n (mkW xs w) := by
      by_cases e : l = []
      · exact .inl e
      · right
        have : cntL [l] = 1 := by unfold cntL; rw [List.filter_cons_of_pos (by simpa using e)]; rfl
        omega
    obtain ⟨g1, a1⟩ := put_ok h l (hl l List.mem_cons_self) h0
    have hz : (nz [(layL xs n w l).2]).length = cntL [l] := (laid_count (g := getW xs (layL xs n w l).1) (n := n) (ls := [l]) (bs := [(layL xs n w l).2]) ⟨a1, trivial⟩).1
    have hfree := g1.free
    obtain ⟨g2, a2⟩ := puts_ok ls (layL xs n w l).1 g1.disk (fun x hx => hl x (List.mem_cons_of_mem _ hx)) (by omega)
    have g := g1.trans g2
    rw [laysL]
    refine ⟨by rw [nz_cons]; exact g, a1.frame fun hb => ?_, a2⟩
    have hmem : (layL xs n w l).2 ∈ nz [(layL xs n w l).2] := by
      unfold nz
      rw [List.filter_cons_of_pos (by simpa using hb)]
      exact List.mem_cons_self
    have ho := own_bounds (g1.own _ hmem).1
    refine g2.rest _ (by omega) fun hm => ?_
    have := (g2.own _ hm).2
    rw [g1.used, if_pos hmem] at this
    cases this

/-! ### Lists are loaded -/

def goodL (n : Nat) (l : List Int) : Prop := l = [] ∨ (l.length = 8 ∧ (l.any fun x => x != 0) = true ∧ oddM n l = false)

theorem odd_small {n : Nat} (hn : n ≤ 400) {l : List Int} (h : oddM n l = false) : ∀ x ∈ l, 0 ≤ x ∧ x ≤ 65535 := by
  intro x hx
  unfold oddM at h
  rw [List.any_eq_false] at h
  have := h x hx
  simp only [Bool.and_eq_true, bne_iff_ne, ne_eq, Bool.not_eq_true', not_and, Bool.not_eq_false] at this
  by_cases h0 : x = 0
  · omega
  · have := own_bounds (this h0)
    omega

theorem goodL.small {n : Nat} (hn : n ≤ 400) {l : List Int} (h : goodL n l) : l = [] ∨ smallL l := by
  rcases h with h | ⟨h1, _, h3⟩
  · exact .inl h
  · exact .inr ⟨h1, odd_small hn h3⟩

theorem ld_back {g : Int → Blk} {n : Nat} (hn : n ≤ 400) {l : List Int} {b : Int} (ha : At g n l b) (hl : goodL n l) (acc : List Int) : ldS g n (false, acc) b = ((false, acc ++ nz [b]), l) := by
  unfold ldS
  rcases ha with ⟨rfl, rfl⟩ | ⟨hne, ho, hg⟩
  · rw [if_pos (.inl rfl)]
    simp [nz]
  · have hb := own_ne ho
    obtain ⟨h1, h2, h3⟩ := hl.resolve_left hne
    have hs : smallL l := ⟨h1, odd_small hn h3⟩
    have hr : rdL g n b = some l := by
      unfold rdL lstOk
      rw [hg, ladR_B hs, ladOk_B hs, h2, h3, if_pos ⟨ho, rfl⟩]
    rw [if_neg (by simp [hb]), hr]
    unfold afterL nz
    rw [List.filter_cons_of_pos (by simpa using hb)]
    rfl

theorem lds_back {g : Int → Blk} {n : Nat} (hn : n ≤ 400) : ∀ (ls : List (List Int)) (bs acc : List Int), laidL g n ls bs → (∀ l ∈ ls, goodL n l) → ldsS g n (false, acc) bs = ((false, acc ++ nz bs), ls)
  | [], [], acc, _, _ => by rw [ldsS]; simp [nz]
  | [], _ :: _, _, h, _ => h.elim
  | _ :: _, [], _, h, _ => h.elim
  | l :: ls, b :: bs, acc, h, hl => by
    rw [ldsS, ld_back hn h.1 (hl l List.mem_cons_self) acc]
    dsimp only
    rw [lds_back hn ls bs (acc ++ nz [b]) h.2 (fun x hx => hl x (List.mem_cons_of_mem _ hx)), nz_cons b bs, List.append_assoc]

end Go.Proofs.YtlbammfnkphajaaGreatDoor.Abs
