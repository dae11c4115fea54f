/- Rolls: whether a name and a roll may be. -/
import Derived.Test.YtnbhmifidhoblaaDoorLawB
namespace Go.Proofs.YtnbhmifidhoblaaDoor.Abs
open Go
set_option linter.unusedVariables false
attribute [-simp] List.getD_eq_getElem?_getD

/-! ### Names -/

theorem sign_is (c : UInt8) : wainwrightref06_sign (c.toNat : Int) = some (signsB.data.toList.contains c) := by
  have : ∀ n : Fin 256, wainwrightref06_sign ((UInt8.ofNat n.1).toNat : Int) = some (signsB.data.toList.contains (UInt8.ofNat n.1)) := by decide +kernel
  have h2 := this ⟨c.toNat, c.toNat_lt⟩
  simp only [UInt8.ofNat_toNat] at h2
  exact h2

theorem loop_findG {α σ τ : Type} {f : σ → Option (σ ⊕ τ)} (d : α) (st : Nat → σ) (p : α → Bool) (l : List α) (rf : τ) (re : τ)
    (hs : ∀ i, i < l.length → f (st i) = if p (l.getD i d) = true then some (.inr rf) else some (.inl (st (i + 1)))) (he : f (st l.length) = some (.inr re)) :
    loopO f (st 0) = some (if l.any p = true then rf else re) := by
  obtain ⟨j, _, h2, h3, h4, h5⟩ := loop_first (f := f) st (fun i => p (l.getD i d)) (r := fun i => if i < l.length then rf else re) (n := l.length) l.length 0 (by omega)
    (fun i _ hi => by rw [hs i hi, if_pos hi]) (by rw [he, if_neg (by omega)])
  rw [h5]
  congr 1
  by_cases hj : j < l.length
  · rw [if_pos hj, if_pos]
    refine List.any_eq_true.2 ⟨l.getD j d, ?_, h4 hj⟩
    rw [getD_lt hj]; exact List.getElem_mem _
  · rw [if_neg hj, if_neg]
    intro ha
    obtain ⟨x, hx, hp⟩ := List.any_eq_true.1 ha
    obtain ⟨i, hi, rfl⟩ := List.getElem_of_mem hx
    have := h3 i (by omega) (by omega)
    rw [getD_lt hi] at this
    rw [this] at hp; cases hp

theorem refRight06_is (s : List UInt8) (h : s.length ≤ 4611686018427387904) : wainwrightref06_Right s = some (rightS s) := by
  have := loop_findG (f := wainwrightref06_Right.l1) 0 (fun i => (s, (i : Int))) (fun b => !signsB.data.toList.contains b) s (.inr false) (.inl s) (fun i hi => by
    unfold wainwrightref06_Right.l1
    simp only
    rw [if_pos (by simpa using hi), if_pos (by omega), getD_nat, sign_is, Option.bind_some, wrap_succ (by omega)]) (by unfold wainwrightref06_Right.l1; simp)
  unfold wainwrightref06_Right
  rw [show (s, (0 : Int)) = (s, ((0 : Nat) : Int)) from rfl, this, Option.bind_some]
  have hall : allSigns s = !(s.any fun b => !signsB.data.toList.contains b) := by
    unfold allSigns
    rw [List.not_any_eq_all_not]
    simp only [Bool.not_not]
  unfold rightS
  rw [hall]
  generalize (s.any fun b => !signsB.data.toList.contains b) = a
  cases a
  · rw [if_neg (by simp)]
    simp only
    have e1 : decide ((s.length : Int) ≥ 1) = !s.isEmpty := by
      cases s with
      | nil => rfl
      | cons a t => simp only [List.length_cons, List.isEmpty_cons, Bool.not_false, decide_eq_true_eq]; omega
    have e2 : decide ((s.length : Int) ≤ 11) = decide (s.length ≤ 11) := decide_eq_decide.2 (by omega)
    rw [e1, e2]
    generalize s.isEmpty = b1
    generalize decide (s.length ≤ 11) = b2
    generalize (s == [46]) = b3
    generalize (s == [46, 46]) = b4
    cases b1 <;> cases b2 <;> cases b3 <;> cases b4 <;> rfl
  · rw [if_pos rfl]
    simp

/-! ### Names that differ -/

def seenM (ns : List E) : Nat → List E
  | 0 => []
  | j + 1 => mput (K := .str) (V := I) (seenM ns j) (ns.getD j e0).1 (IntKind.i64.wrap (((mget (K := .str) (V := I) (seenM ns j) (ns.getD j e0).1).getD 0) + 1))

theorem mput_keys : ∀ (es : List E) (x : List UInt8) (y : Int), (mput (K := .str) (V := I) es x y).map (·.1) = if x ∈ es.map (·.1) then es.map (·.1) else es.map (·.1) ++ [x]
  | [], x, y => by simp [mput]
  | e :: es, x, y => by
    have ih := mput_keys es x y
    unfold mput
    have hb : (Ty.eqb .str x e.1 = true) ↔ x = e.1 := by
      change (x == e.1) = true ↔ _
      exact beq_iff_eq
    by_cases h : x = e.1
    · rw [if_pos (hb.2 h), if_pos (by rw [h]; simp)]
      simp [h]
    · rw [if_neg (fun q => h (hb.1 q))]
      rw [List.map_cons, ih]
      by_cases h2 : x ∈ es.map (·.1)
      · rw [if_pos h2, if_pos (by simp only [List.map_cons, List.mem_cons]; exact .inr h2), List.map_cons]
      · rw [if_neg h2, if_neg (by simp only [List.map_cons, List.mem_cons]; rintro (q | q); exact h q; exact h2 q), List.map_cons, List.cons_append]

theorem seenM_keys (ns : List E) : ∀ j, j ≤ ns.length → (∀ x, x ∈ (seenM ns j).map (·.1) ↔ x ∈ (ns.take j).map (·.1)) ∧ (seenM ns j).length ≤ j ∧ ((seenM ns j).length = j ↔ ((ns.take j).map (·.1)).Nodup)
  | 0, _ => by simp [seenM]
  | j + 1, h => by
    obtain ⟨h1, h2, h3⟩ := seenM_keys ns j (by omega)
    have hk := mput_keys (seenM ns j) (ns.getD j e0).1 (IntKind.i64.wrap (((mget (K := .str) (V := I) (seenM ns j) (ns.getD j e0).1).getD 0) + 1))
    have hl := congrArg List.length hk
    rw [List.length_map] at hl
    change (seenM ns (j + 1)).map _ = _ at hk
    change (seenM ns (j + 1)).length = _ at hl
    rw [take_succ_getD (by omega) e0, List.map_append, List.map_cons, List.map_nil]
    generalize (ns.getD j e0).1 = x at hk hl
    by_cases hx : x ∈ (seenM ns j).map (·.1)
    · rw [if_pos hx] at hk hl
      rw [List.length_map] at hl
      refine ⟨fun y => ?_, by omega, ?_⟩
      · rw [hk, h1, List.mem_append, List.mem_singleton]
        exact ⟨.inl, fun q => q.elim id fun q => by rw [q]; exact (h1 x).1 hx⟩
      · constructor
        · intro q; omega
        · intro q
          rw [List.nodup_append] at q
          exact absurd rfl (q.2.2 x ((h1 x).1 hx) x (by simp))
    · rw [if_neg hx] at hk hl
      rw [List.length_append, List.length_map, List.length_singleton] at hl
      refine ⟨fun y => ?_, by omega, ?_⟩
      · rw [hk, List.mem_append, List.mem_append, h1]
      · rw [hl, Nat.add_right_cancel_iff, h3, List.nodup_append]
        constructor
        · intro q
          refine ⟨q, by simp, fun a ha b hb => ?_⟩
          rw [List.mem_singleton] at hb
          subst hb
          exact fun e => hx ((h1 b).2 (e ▸ ha))
        · exact fun q => q.1

/-! ### Rolls -/

def distinct (l : List E) : Prop := ((live l).map (·.1)).Nodup
instance (l : List E) : Decidable (distinct l) := by unfold distinct; infer_instance
def rightR (l : List E) : Bool := decide (l.length % 8 = 0) && !(l.any oddE) && decide (distinct l) && decide ((live l).length ≤ 160)

theorem any_odd (l : List E) : decide (ix oddE l ≥ 0) = l.any oddE := by
  unfold ix
  by_cases h : l.findIdx oddE < l.length
  · rw [if_pos h]
    have := findIdx_at h
    rw [show decide (((l.findIdx oddE : Nat) : Int) ≥ 0) = true by simp]
    symm
    refine List.any_eq_true.2 ⟨_, ?_, this⟩
    rw [getD_lt h]; exact List.getElem_mem _
  · rw [if_neg h]
    symm
    rw [show decide ((-1 : Int) ≥ 0) = false from rfl, List.any_eq_false]
    intro x hx
    obtain ⟨i, hi, rfl⟩ := List.getElem_of_mem hx
    have := findIdx_lt (p := oddE) (l := l) (j := i) (by omega)
    rw [getD_lt hi] at this
    rw [this]; simp

theorem tmod8 (n : Nat) : (Int.tmod (n : Int) 8 != 0) = !decide (n % 8 = 0) := by
  have : Int.tmod (n : Int) 8 = ((n % 8 : Nat) : Int) := by rw [Int.tmod_eq_emod_of_nonneg (by omega)]; omega
  rw [this]
  by_cases h : n % 8 = 0
  · rw [h]; rfl
  · rw [bne_iff_ne.2 (by omega)]
    simp [h]

theorem Right_is (l : List E) (h : l.length ≤ 1000) : rolls_Right l = some (rightR l) := by
  unfold rolls_Right
  rw [tmod8]
  unfold rightR
  by_cases h8 : l.length % 8 = 0
  · rw [if_pos (by simp [h8])]
    unfold api_Entry_1
    rw [ix_odd l h, Option.bind_some, Option.bind_some, any_odd]
    by_cases ho : l.any oddE = true
    · rw [if_pos ho, ho]; simp
    · rw [if_neg ho, Live_is l h, Option.bind_some]
      have ll := live_len l
      have := loop_run (f := rolls_Right.l1) (fun j => (seenM (live l) j, l, live l, ((live l).length : Int), (j : Int))) (r := (seenM (live l) (live l).length, l)) (n := (live l).length) (fun i hi => by
        unfold rolls_Right.l1
        simp only
        rw [if_pos (by simpa using hi), if_pos (by omega), getD_nat, wrap_succ (by omega)]
        rfl) (by unfold rolls_Right.l1; simp)
      rw [show (([] : List E), l, live l, ((live l).length : Int), (0 : Int)) = (seenM (live l) 0, l, live l, ((live l).length : Int), ((0 : Nat) : Int)) from rfl, this, Option.bind_some]
      obtain ⟨_, h2, h3⟩ := seenM_keys (live l) (live l).length (Nat.le_refl _)
      rw [List.take_length] at h3
      simp only
      rw [Live_is l h, Option.bind_some]
      have ho' : l.any oddE = false := by simpa using ho
      by_cases hd : distinct l
      · rw [if_pos (by rw [h3.2 hd]; simp), h3.2 hd, ho', h8]
        simp only [decide_true, Bool.not_false, Bool.and_true, Bool.true_and, hd]
        congr 1
        exact decide_eq_decide.2 (by omega)
      · have : (seenM (live l) (live l).length).length ≠ (live l).length := fun q => hd (h3.1 q)
        rw [if_neg (by simp; omega)]
        simp [hd]
  · rw [if_neg (by simp [h8])]
    simp [h8]

def emptyE (x : E) : Bool := (x.1 == []) && (x.2 == 0)
def fitE (x : E) : Bool := decide (x.2 ≥ 1) && decide (x.2 ≤ 65535) && rightS x.1

theorem odd_fit (x : E) : oddE x = (!emptyE x && !fitE x) := by
  unfold oddE emptyE fitE
  congr 1
  rw [show decide (x.2 < 1) = !decide (x.2 ≥ 1) by rw [← decide_not]; exact decide_eq_decide.2 (by omega), show decide (x.2 > 65535) = !decide (x.2 ≤ 65535) by rw [← decide_not]; exact decide_eq_decide.2 (by omega)]
  cases decide (x.2 ≥ 1) <;> cases decide (x.2 ≤ 65535) <;> cases rightS x.1 <;> rfl

theorem refNode_is (n : Int) : wainwrightref07_node n = some (decide (n ≥ 1) && decide (n ≤ 65535)) := by
  unfold wainwrightref07_node
  cases decide (n ≥ 1) <;> simp

/-- A place at which the reference says no. -/
def badAt (l : List E) (i : Nat) : Bool := !emptyE (l.getD i e0) && (!fitE (l.getD i e0) || (l.take i).any fun y => y.1 == (l.getD i e0).1)

theorem right_iff (l : List E) : (l.any oddE = false ∧ distinct l) ↔ ∀ i, i < l.length → badAt l i = false := by
  have hfit : ∀ x : E, fitE x = true → keep x = true ∧ x.1 ≠ [] := fun x hx => by
    unfold fitE at hx
    simp only [Bool.and_eq_true, decide_eq_true_eq] at hx
    obtain ⟨⟨h1, h2⟩, h3⟩ := hx
    refine ⟨by unfold keep; simp; omega, fun e => ?_⟩
    rw [e] at h3
    exact absurd h3 (by decide)
  have hemp : ∀ x : E, emptyE x = true → keep x = false := fun x hx => by
    unfold emptyE at hx; unfold keep
    simp only [Bool.and_eq_true] at hx
    rw [hx.2]; rfl
  have hodd : l.any oddE = false ↔ ∀ i, i < l.length → emptyE (l.getD i e0) = true ∨ fitE (l.getD i e0) = true := by
    rw [List.any_eq_false]
    constructor
    · intro h i hi
      have := h (l.getD i e0) (by rw [getD_lt hi]; exact List.getElem_mem _)
      rw [odd_fit] at this
      cases h1 : emptyE (l.getD i e0) <;> cases h2 : fitE (l.getD i e0) <;> simp_all
    · intro h x hx
      obtain ⟨i, hi, rfl⟩ := List.getElem_of_mem hx
      have := h i hi
      rw [getD_lt hi] at this
      rw [odd_fit]
      rcases this with h1 | h1 <;> simp [h1]
  have hdist : distinct l ↔ ∀ i k, k < i → i < l.length → keep (l.getD k e0) = true → keep (l.getD i e0) = true → (l.getD k e0).1 ≠ (l.getD i e0).1 := by
    unfold distinct live List.Nodup
    rw [List.pairwise_map, List.pairwise_filter, List.pairwise_iff_getElem]
    constructor
    · intro h i k h1 h2 h3 h4
      have := h k i (by omega) h2 h1
      rw [getD_lt (by omega)] at h3 ⊢
      rw [getD_lt h2] at h4 ⊢
      exact this h3 h4
    · intro h k i h1 h2 h3 h4 h5
      have := h i k h3 h2
      rw [getD_lt h2, getD_lt h1] at this
      exact this h4 h5
  rw [hodd, hdist]
  constructor
  · rintro ⟨h1, h2⟩ i hi
    unfold badAt
    rcases h1 i hi with h3 | h3
    · simp [h3]
    · rw [h3, Bool.not_true, Bool.false_or]
      refine Bool.and_eq_false_iff.2 (.inr ?_)
      rw [List.any_eq_false]
      intro y hy
      obtain ⟨k, hk, rfl⟩ := List.getElem_of_mem hy
      have hk2 : k < i := by simp at hk; omega
      rw [List.getElem_take]
      rcases h1 k (by omega) with h5 | h5
      · rw [getD_lt (show k < l.length by omega)] at h5
        unfold emptyE at h5
        simp only [Bool.and_eq_true, beq_iff_eq] at h5
        rw [h5.1]
        have := (hfit _ h3).2
        rw [beq_iff_eq]
        exact fun e => this e.symm
      · have := h2 i k hk2 hi (hfit _ h5).1 (hfit _ h3).1
        rw [getD_lt (show k < l.length by omega)] at this
        simpa using this
  · intro h
    refine ⟨fun i hi => ?_, fun i k h1 h2 h3 h4 e => ?_⟩
    · have := h i hi
      unfold badAt at this
      cases h1 : emptyE (l.getD i e0)
      · rw [h1, Bool.not_false, Bool.true_and, Bool.or_eq_false_iff] at this
        exact .inr (by simpa using this.1)
      · exact .inl rfl
    · have := h i h2
      unfold badAt at this
      have hne : emptyE (l.getD i e0) = false := by
        cases hh : emptyE (l.getD i e0) with
        | false => rfl
        | true => rw [hemp _ hh] at h4; cases h4
      rw [hne, Bool.not_false, Bool.true_and, Bool.or_eq_false_iff, List.any_eq_false] at this
      refine this.2 (l.getD k e0) ?_ (by rw [e]; simp)
      rw [getD_lt (show k < l.length by omega), List.mem_take_iff_getElem]
      exact ⟨k, by omega, rfl⟩

theorem refRight_is (l : List E) (h : l.length ≤ 1000) (hs : ∀ x ∈ l, x.1.length ≤ 4611686018427387904) : wainwrightref07_Right l = some (rightR l) := by
  unfold wainwrightref07_Right
  rw [tmod8]
  unfold rightR
  by_cases h8 : l.length % 8 = 0
  · rw [if_pos (by simp [h8]), refLive_is l h, Option.bind_some]
    by_cases h160 : (live l).length ≤ 160
    · rw [if_neg (by simp; omega)]
      obtain ⟨j, _, h2, h3, h4, h5⟩ := loop_first (f := wainwrightref07_Right.l1) (fun i => (l, (i : Int))) (badAt l) (r := fun i => if i < l.length then .inr false else .inl ()) (n := l.length) l.length 0 (by omega)
        (fun i _ hi => by
          have hin := loop_findG (f := wainwrightref07_Right.l2) e0 (fun k => (l, (i : Int), (k : Int))) (fun y => y.1 == (l.getD i e0).1) (l.take i) (.inr false) (.inl (l, (i : Int))) (fun k hk => by
            have hk2 : k < i := by simp at hk; omega
            have hg : (l.take i).getD k e0 = l.getD k e0 := by simp [List.getD, List.getElem?_take, hk2]
            unfold wainwrightref07_Right.l2
            simp only
            rw [if_pos (by simpa using hk2), if_pos (by omega), if_pos (by omega), getD_nat, getD_nat, hg, wrap_succ (by omega)]
            rfl) (by
            have : (l.take i).length = i := by simp; omega
            rw [this]
            unfold wainwrightref07_Right.l2
            simp)
          unfold wainwrightref07_Right.l1
          simp only
          have hm : l.getD i ([], 0) ∈ l := by rw [getD_lt hi]; exact List.getElem_mem _
          have hbad : badAt l i = (!((l.getD i ([], 0)).1 == [] && (l.getD i ([], 0)).2 == 0) && (!((decide ((l.getD i ([], 0)).2 ≥ 1) && decide ((l.getD i ([], 0)).2 ≤ 65535)) && rightS (l.getD i ([], 0)).1) || (l.take i).any fun y => y.1 == (l.getD i ([], 0)).1)) := rfl
          rw [if_pos (by simpa using hi), if_pos (by omega), getD_nat, hbad, wrap_succ (by omega)]
          rw [show l.getD i e0 = l.getD i ([], 0) from rfl] at hin
          cases hb : ((l.getD i ([], 0)).1 == [] && (l.getD i ([], 0)).2 == 0)
          · rw [if_neg (by simp), if_pos (by omega), refNode_is, Option.bind_some, if_pos (show 0 ≤ (i : Int) ∧ (i : Int) < (l.length : Int) by omega), refRight06_is _ (hs _ hm), Option.bind_some]
            rw [show (l, (i : Int), (0 : Int)) = (l, (i : Int), ((0 : Nat) : Int)) from rfl, hin, Option.bind_some, if_pos hi]
            generalize (decide ((l.getD i ([], 0)).2 ≥ 1) && decide ((l.getD i ([], 0)).2 ≤ 65535)) = b2
            generalize rightS (l.getD i ([], 0)).1 = b3
            generalize ((l.take i).any fun y => y.1 == (l.getD i ([], 0)).1) = b4
            have hw := wrap_succ (n := i) (by omega)
            cases b2 <;> cases b3 <;> cases b4 <;> first | rfl | simp [hw]
          · rw [if_pos rfl]; simp)
        (by unfold wainwrightref07_Right.l1; simp)
      rw [show (l, (0 : Int)) = (l, ((0 : Nat) : Int)) from rfl, h5, Option.bind_some]
      have hr := right_iff l
      by_cases hj : j < l.length
      · rw [if_pos hj]
        have hnb : ¬ (l.any oddE = false ∧ distinct l) := fun q => by
          have := hr.1 q j hj
          rw [h4 hj] at this; cases this
        simp only
        congr 1
        symm
        by_cases hd : distinct l
        · have : l.any oddE = true := by
            cases hh : l.any oddE with
            | true => rfl
            | false => exact absurd ⟨hh, hd⟩ hnb
          simp [this]
        · simp [hd]
      · rw [if_neg hj]
        obtain ⟨q1, q2⟩ := hr.2 fun i hi => h3 i (by omega) (by omega)
        simp only
        rw [q1]
        simp [h8, q2, h160]
    · rw [if_pos (by simp; omega)]
      simp [h160]
  · rw [if_neg (by simp [h8])]
    simp [h8]
end Go.Proofs.YtnbhmifidhoblaaDoor.Abs
