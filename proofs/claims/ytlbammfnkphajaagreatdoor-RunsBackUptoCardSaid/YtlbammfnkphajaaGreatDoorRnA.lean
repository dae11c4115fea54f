/- Pages of runs, as bytes; a chain of pages. -/
import Derived.Test.YtlbammfnkphajaaGreatDoorRnN
namespace Go.Proofs.YtlbammfnkphajaaGreatDoor.Abs
open Go
set_option linter.unusedVariables false
attribute [-simp] List.getD_eq_getElem?_getD

/-! ### Two bytes -/

def w2 (s : Blk) (j : Nat) : Int := ((s.getD j 0).toNat : Int) + 256 * ((s.getD (j + 1) 0).toNat : Int)
def b2 (v : Int) : Blk := u8s (le 2 v)
theorem b2_len (v : Int) : (b2 v).length = 2 := rfl
theorem b2_eq (v : Int) : b2 v = [UInt8.ofNat (v % 256).toNat, UInt8.ofNat (v / 256 % 256).toNat] := rfl

theorem getD_appB (pre post : Blk) (j : Nat) : (pre ++ post).getD (pre.length + j) 0 = post.getD j 0 := by
  unfold List.getD
  rw [List.getElem?_append_right (by omega), Nat.add_sub_cancel_left]

theorem w2_app (pre post : Blk) (v : Int) (h : 0 ≤ v ∧ v ≤ 65535) : w2 (pre ++ (b2 v ++ post)) pre.length = v := by
  unfold w2
  have e0 := getD_appB pre (b2 v ++ post) 0
  have e1 := getD_appB pre (b2 v ++ post) 1
  rw [Nat.add_zero] at e0
  rw [e0, e1, b2_eq]
  have h0 : ([UInt8.ofNat (v % 256).toNat, UInt8.ofNat (v / 256 % 256).toNat] ++ post).getD 0 0 = UInt8.ofNat (v % 256).toNat := rfl
  have h1 : ([UInt8.ofNat (v % 256).toNat, UInt8.ofNat (v / 256 % 256).toNat] ++ post).getD 1 0 = UInt8.ofNat (v / 256 % 256).toNat := rfl
  rw [h0, h1, UInt8.toNat_ofNat', UInt8.toNat_ofNat', Nat.mod_eq_of_lt (show (v % 256).toNat < 2 ^ 8 by omega), Nat.mod_eq_of_lt (show (v / 256 % 256).toNat < 2 ^ 8 by omega)]
  omega

theorem val2w (s : Blk) (j : Nat) (h : j + 2 ≤ s.length) : ((val ((s.drop j).take 2) : Nat) : Int) = w2 s j := by
  have e : (s.drop j).take 2 = [s.getD j 0, s.getD (j + 1) 0] := by
    rw [List.drop_eq_getElem_cons (by omega), List.drop_eq_getElem_cons (by omega), List.take_succ_cons, List.take_succ_cons, List.take_zero, getD_lt (by omega), getD_lt (by omega)]
  rw [e]
  unfold w2
  simp only [val]
  omega

/-! ### Pages of runs -/

abbrev Pg := List Sp
def runAt (s : Blk) (k : Nat) : Sp := (w2 s (1 + 6 * k), w2 s (3 + 6 * k), w2 s (5 + 6 * k))
def pageN (s : Blk) : Nat := (s.getD 0 0).toNat
def pageX (s : Blk) : Int := w2 s 126
def pageR (s : Blk) : Pg := (List.range (pageN s)).map (runAt s)
def pageOk (s : Blk) : Bool := (decide (1 ≤ pageN s ∧ pageN s ≤ 20) && zeros ((s.take 126).drop (1 + 6 * pageN s))) && (decide (pageX s = 0) || decide (pageN s = 20))

def runB (r : Sp) : Blk := b2 r.1 ++ (b2 r.2.1 ++ b2 r.2.2)
theorem runB_len (r : Sp) : (runB r).length = 6 := rfl
theorem runs_len : ∀ rs : Pg, (rs.flatMap runB).length = 6 * rs.length
  | [] => rfl
  | r :: rs => by rw [List.flatMap_cons, List.length_append, runB_len, runs_len rs, List.length_cons]; omega
def headB (rs : Pg) : Blk := UInt8.ofNat rs.length :: rs.flatMap runB
theorem headB_len (rs : Pg) : (headB rs).length = 1 + 6 * rs.length := by
  unfold headB
  rw [List.length_cons, runs_len]; omega
def pageB (rs : Pg) (nx : Int) : Blk := headB rs ++ (List.replicate (126 - (1 + 6 * rs.length)) 0 ++ b2 nx)
theorem pageB_len (rs : Pg) (nx : Int) (h : rs.length ≤ 20) : (pageB rs nx).length = 128 := by
  unfold pageB
  rw [List.length_append, List.length_append, headB_len, List.length_replicate, b2_len]; omega

def small (r : Sp) : Prop := (0 ≤ r.1 ∧ r.1 ≤ 65535) ∧ (0 ≤ r.2.1 ∧ r.2.1 ≤ 65535) ∧ (0 ≤ r.2.2 ∧ r.2.2 ≤ 65535)

theorem run_back (rs : Pg) (post : Blk) (k : Nat) (hk : k < rs.length) (hs : small rs[k]) (x : UInt8) : runAt ((x :: rs.flatMap runB) ++ post) k = rs[k] := by
  have e : (x :: rs.flatMap runB) ++ post = (x :: (rs.take k).flatMap runB) ++ (runB rs[k] ++ ((rs.drop (k + 1)).flatMap runB ++ post)) := by
    have h1 : rs = rs.take k ++ rs[k] :: rs.drop (k + 1) := by rw [← List.drop_eq_getElem_cons hk, List.take_append_drop]
    have h2 : rs.flatMap runB = (rs.take k).flatMap runB ++ (runB rs[k] ++ (rs.drop (k + 1)).flatMap runB) := by
      rw [← List.flatMap_cons, ← List.flatMap_append, ← h1]
    rw [h2]
    simp
  have hl : (x :: (rs.take k).flatMap runB).length = 1 + 6 * k := by
    rw [List.length_cons, runs_len, List.length_take]; omega
  rw [e]
  obtain ⟨h1, h2, h3⟩ := hs
  generalize (rs.drop (k + 1)).flatMap runB ++ post = tl
  generalize (x :: (rs.take k).flatMap runB) = pre at hl
  generalize hr : rs[k] = r at h1 h2 h3
  unfold runAt
  have a1 : w2 (pre ++ (runB r ++ tl)) (1 + 6 * k) = r.1 := by
    rw [← hl]
    unfold runB
    rw [List.append_assoc]
    exact w2_app pre _ r.1 h1
  have a2 : w2 (pre ++ (runB r ++ tl)) (3 + 6 * k) = r.2.1 := by
    have : pre ++ (runB r ++ tl) = (pre ++ b2 r.1) ++ (b2 r.2.1 ++ (b2 r.2.2 ++ tl)) := by unfold runB; simp
    rw [this, show 3 + 6 * k = (pre ++ b2 r.1).length by rw [List.length_append, b2_len, hl]; omega]
    exact w2_app _ _ _ h2
  have a3 : w2 (pre ++ (runB r ++ tl)) (5 + 6 * k) = r.2.2 := by
    have : pre ++ (runB r ++ tl) = (pre ++ (b2 r.1 ++ b2 r.2.1)) ++ (b2 r.2.2 ++ tl) := by unfold runB; simp
    rw [this, show 5 + 6 * k = (pre ++ (b2 r.1 ++ b2 r.2.1)).length by rw [List.length_append, List.length_append, b2_len, b2_len, hl]; omega]
    exact w2_app _ _ _ h3
  rw [a1, a2, a3]

theorem zeros_repl (n : Nat) : zeros (List.replicate n 0) = true := by
  unfold zeros
  rw [List.all_eq_true]
  intro x hx
  rw [List.eq_of_mem_replicate hx]
  rfl

theorem page_back (rs : Pg) (nx : Int) (h1 : 1 ≤ rs.length) (h2 : rs.length ≤ 20) (hs : ∀ r ∈ rs, small r) (hn : 0 ≤ nx ∧ nx ≤ 65535) (hx : nx = 0 ∨ rs.length = 20) :
    pageOk (pageB rs nx) = true ∧ pageR (pageB rs nx) = rs ∧ pageX (pageB rs nx) = nx := by
  have hN : pageN (pageB rs nx) = rs.length := by
    unfold pageN pageB headB
    rw [List.cons_append, List.getD_cons_zero, UInt8.toNat_ofNat', Nat.mod_eq_of_lt (by omega)]
  have hX : pageX (pageB rs nx) = nx := by
    unfold pageX pageB
    rw [← List.append_assoc]
    have := w2_app (headB rs ++ List.replicate (126 - (1 + 6 * rs.length)) 0) [] nx hn
    rw [List.append_nil, List.length_append, headB_len, List.length_replicate, show 1 + 6 * rs.length + (126 - (1 + 6 * rs.length)) = 126 by omega] at this
    exact this
  refine ⟨?_, ?_, hX⟩
  · unfold pageOk
    rw [hN, hX, decide_eq_true ⟨h1, h2⟩, Bool.true_and]
    have hz : ((pageB rs nx).take 126).drop (1 + 6 * rs.length) = List.replicate (126 - (1 + 6 * rs.length)) 0 := by
      unfold pageB
      rw [← List.append_assoc, List.take_append_of_le_length (by rw [List.length_append, headB_len, List.length_replicate]; omega), List.take_of_length_le (by rw [List.length_append, headB_len, List.length_replicate]; omega)]
      rw [List.drop_append_of_le_length (by rw [headB_len]; omega), List.drop_of_length_le (by rw [headB_len]; omega), List.nil_append]
    rw [hz, zeros_repl, Bool.true_and]
    rcases hx with q | q
    · rw [decide_eq_true q]; rfl
    · rw [decide_eq_true q, Bool.or_true]
  · unfold pageR
    rw [hN]
    refine List.ext_getElem (by simp) fun k k1 k2 => ?_
    rw [List.getElem_map, List.getElem_range]
    have k3 : k < rs.length := k2
    unfold pageB headB
    exact run_back rs _ k k3 (hs _ (List.getElem_mem k3)) _

/-! ### A chain of pages -/

def ownI (n : Nat) (b : Int) : Bool := decide (51 ≤ b ∧ b < (n : Int))

def walk (g : Int → Blk) (n : Nat) : Nat → Pg → List Int → Int → Option (Pg × List Int)
  | 0, _, _, _ => none
  | f + 1, l, bs, nx =>
    if nx = 0 then some (l, bs)
    else if ownI n nx = true ∧ l.length ≤ 120 then (if pageOk (g nx) = true then walk g n f (l ++ pageR (g nx)) (bs ++ [nx]) (pageX (g nx)) else none)
    else none

/-- Pages that lie in blocks, each with the number of the next. -/
def laidP (g : Int → Blk) : List Pg → List Int → Prop
  | p :: ps, b :: bs => g b = pageB p (bs.headD 0) ∧ laidP g ps bs
  | [], [] => True
  | _, _ => False

/-- Pages as they are made: all but the last are full. -/
def goodP : List Pg → Prop
  | [] => True
  | [p] => 1 ≤ p.length ∧ p.length ≤ 20 ∧ (∀ r ∈ p, small r)
  | p :: q :: ps => (p.length = 20 ∧ (∀ r ∈ p, small r)) ∧ goodP (q :: ps)

theorem walk_laid (g : Int → Blk) (n : Nat) (hn : n ≤ 65535) : ∀ (ps : List Pg) (bs : List Int) (f : Nat) (l : Pg) (acc : List Int), laidP g ps bs → goodP ps → (∀ b ∈ bs, ownI n b = true) → bs.length < f → (l ++ ps.flatten).length ≤ 120 →
    walk g n f l acc (bs.headD 0) = some (l ++ ps.flatten, acc ++ bs)
  | [], [], f + 1, l, acc, _, _, _, _, _ => by
    simp [walk]
  | [], b :: bs, _, _, _, h, _, _, _, _ => by cases h
  | p :: ps, [], _, _, _, h, _, _, _, _ => by cases h
  | p :: ps, b :: bs, f + 1, l, acc, h, hg, ho, hf, hl => by
    obtain ⟨hb, h2⟩ := h
    have hob := ho b List.mem_cons_self
    have hob' := hob
    unfold ownI at hob'
    rw [decide_eq_true_eq] at hob'
    have hnx : 0 ≤ bs.headD 0 ∧ bs.headD 0 ≤ 65535 := by
      cases bs with
      | nil => simp
      | cons c cs =>
        have := ho c (List.mem_cons_of_mem _ List.mem_cons_self)
        unfold ownI at this
        rw [decide_eq_true_eq] at this
        simp only [List.headD_cons]
        omega
    have hp : (1 ≤ p.length ∧ p.length ≤ 20 ∧ (∀ r ∈ p, small r)) ∧ (bs.headD 0 = 0 ∨ p.length = 20) ∧ goodP ps := by
      cases ps with
      | nil =>
        cases bs with
        | nil => exact ⟨hg, .inl rfl, trivial⟩
        | cons c cs => cases h2
      | cons q qs =>
        obtain ⟨⟨g1, g2⟩, g3⟩ := hg
        exact ⟨⟨by omega, by omega, g2⟩, .inr g1, g3⟩
    obtain ⟨⟨p1, p2, p3⟩, p4, p5⟩ := hp
    obtain ⟨q1, q2, q3⟩ := page_back p (bs.headD 0) p1 p2 p3 hnx p4
    rw [List.flatten_cons] at hl
    rw [show (b :: bs).headD 0 = b from rfl, walk, if_neg (by omega), if_pos ⟨hob, by rw [List.length_append] at hl; omega⟩, hb, if_pos q1, q2, q3,
      walk_laid g n hn ps bs f (l ++ p) (acc ++ [b]) h2 p5 (fun x hx => ho x (List.mem_cons_of_mem _ hx)) (by simp at hf; omega) (by rw [List.append_assoc]; exact hl)]
    simp

/-- How long a chain can be. -/
theorem walk_len (g : Int → Blk) (n : Nat) : ∀ (f : Nat) (l : Pg) (acc : List Int) (nx : Int) (l' : Pg) (bs : List Int), walk g n f l acc nx = some (l', bs) → bs.length + l.length ≤ acc.length + l'.length ∧ (l'.length ≤ 140 ∨ l'.length = l.length)
  | 0, _, _, _, _, _, h => by cases h
  | f + 1, l, acc, nx, l', bs, h => by
    rw [walk] at h
    by_cases h0 : nx = 0
    · rw [if_pos h0] at h
      cases h
      exact ⟨by omega, .inr rfl⟩
    · rw [if_neg h0] at h
      by_cases h1 : ownI n nx = true ∧ l.length ≤ 120
      · rw [if_pos h1] at h
        by_cases h2 : pageOk (g nx) = true
        · rw [if_pos h2] at h
          have hN : 1 ≤ pageN (g nx) ∧ pageN (g nx) ≤ 20 := by
            unfold pageOk at h2
            simp only [Bool.and_eq_true, decide_eq_true_eq] at h2
            exact h2.1.1
          have hl : (pageR (g nx)).length = pageN (g nx) := by unfold pageR; simp
          have := walk_len g n f _ _ _ _ _ h
          rw [List.length_append, List.length_append, hl] at this
          simp only [List.length_cons, List.length_nil] at this
          refine ⟨by omega, ?_⟩
          rcases this.2 with q | q
          · exact .inl q
          · exact .inl (by omega)
        · rw [if_neg h2] at h; cases h
      · rw [if_neg h1] at h; cases h

end Go.Proofs.YtlbammfnkphajaaGreatDoor.Abs
