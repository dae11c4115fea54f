/- Regions that draw their order: whatever the order, the same comes out. -/
import Derived.Test.YtldmeogadmgkiaaAbsOpsI
import Derived.Orders
namespace Go.Proofs.Ytldmeogadmgkiaa.Abs
open Go

section
variable {ρ : Type} {TT : Nat → TI}

/-! ### An operation answers its continuation's question by one value -/

theorem binInt_nat {op : BinOp} {a : IntKind} {m n : Int} (k : AV → Option ρ) : binInt op a m n k = (binInt op a m n some).bind k := by
  cases op <;> simp only [binInt] <;> first | rfl | (split <;> rfl)

theorem binStr_nat {op : BinOp} {s t : List UInt8} (k : AV → Option ρ) : binStr op s t k = (binStr op s t some).bind k := by
  cases op <;> simp only [binStr] <;> first | rfl | (split <;> rfl)

theorem binK_nat {t : Nat} {op : BinOp} {x y : AV} (k : AV → Option ρ) : binK TT t op x y k = (binK TT t op x y some).bind k := by
  cases x <;> cases y <;> try rfl
  · rename_i a m b n
    cases op <;> simp only [binK] <;> (split <;> first | rfl | exact binInt_nat k)
  · simp only [binK]
    generalize (TT t).kind = q
    cases q <;> cases op <;> rfl
  · exact binStr_nat k

theorem unK_nat {op : UnOp} {x : AV} (k : AV → Option ρ) : unK op x k = (unK op x some).bind k := by
  cases op <;> cases x <;> rfl

theorem loadCs_nat {t sub : Nat} {cs : List AV} (k : AV → Option ρ) : loadCs TT t sub cs k = (loadCs TT t sub cs some).bind k := by
  unfold loadCs
  by_cases h : (TT t).kind.isOther = true
  · rw [if_pos h, if_pos h]; rfl
  · rw [if_neg h, if_neg h]
    by_cases h2 : sub + (if (TT t).kind.isAgg = true then (TT t).size else 1) ≤ cs.length
    · rw [if_pos h2, if_pos h2]; rfl
    · rw [if_neg h2, if_neg h2]; rfl

theorem loadK_nat {t : Nat} {p : AV} {ob : List AO} (k : AV → Option ρ) : loadK TT t p ob k = (loadK TT t p ob some).bind k := by
  cases p <;> try rfl
  · exact loadCs_nat k
  · rename_i j i sub
    simp only [loadK]
    generalize ob.getD j .dead = o
    cases o <;> first | rfl | exact loadCs_nat k

theorem fieldAddrK_nat {s f : Nat} {p : AV} (k : AV → Option ρ) : fieldAddrK TT s p f k = (fieldAddrK TT s p f some).bind k := by
  unfold fieldAddrK
  generalize fieldAt TT s f = o
  cases o with
  | none => rfl
  | some x =>
    simp only
    by_cases h : (TT x.1).size = 0 ∨ (TT x.1).kind.isOther = true
    · rw [if_pos h, if_pos h]; rfl
    · rw [if_neg h, if_neg h]
      cases p <;> rfl

theorem fieldK_nat {s f : Nat} {x : AV} (k : AV → Option ρ) : fieldK TT s x f k = (fieldK TT s x f some).bind k := by
  unfold fieldK
  generalize fieldAt TT s f = o
  cases o with
  | none => rfl
  | some y =>
    cases x <;> first | rfl | exact loadCs_nat k

theorem ite2_nat {c d : Prop} [Decidable c] [Decidable d] (v : AV) (k : AV → Option ρ) :
    (if c then (if d then k v else none) else none) = (if c then (if d then some v else none) else none : Option AV).bind k := by
  by_cases hc : c <;> by_cases hd : d <;> simp [hc, hd]

theorem indexAddrK_nat {t : Nat} {x i : AV} {ob : List AO} (k : AV → Option ρ) : indexAddrK TT t x i ob k = (indexAddrK TT t x i ob some).bind k := by
  unfold indexAddrK
  generalize (TT t).kind = q
  cases q <;> cases i <;> try rfl
  cases x <;> try rfl
  · exact ite2_nat _ k
  · rename_i j
    simp only
    generalize ob.getD j .dead = o
    cases o <;> first | rfl | exact ite2_nat _ k
  · rename_i j off len
    simp only
    generalize ob.getD j .dead = o
    cases o <;> first | rfl | exact ite2_nat _ k

theorem indexK_nat {t : Nat} {x i : AV} (k : AV → Option ρ) : indexK TT t x i k = (indexK TT t x i some).bind k := by
  unfold indexK
  generalize (TT t).kind = q
  cases q <;> cases x <;> cases i <;> try rfl
  simp only
  split <;> rfl

theorem boundK_nat {lo hi : Option AV} {n : Nat} {g : Int → Int → AV} (k : AV → Option ρ) : (boundK lo hi n fun l h => k (g l h)) = (boundK lo hi n fun l h => some (g l h)).bind k := by
  cases lo with
  | none =>
    cases hi with
    | none => rfl
    | some y => cases y <;> first | rfl | (simp only [boundK]; split <;> rfl)
  | some x =>
    cases hi with
    | none => cases x <;> first | rfl | (simp only [boundK]; split <;> rfl)
    | some y => cases x <;> cases y <;> first | rfl | (simp only [boundK]; split <;> rfl)

theorem ite_bound_nat {c : Prop} [Decidable c] {lo hi : Option AV} {n : Nat} {g : Int → Int → AV} (k : AV → Option ρ) :
    (if c then boundK lo hi n fun l h => k (g l h) else none) = (if c then boundK lo hi n fun l h => some (g l h) else none : Option AV).bind k := by
  by_cases hc : c
  · rw [if_pos hc, if_pos hc]; exact boundK_nat k
  · rw [if_neg hc, if_neg hc]; rfl

theorem sliceK_nat {t : Nat} {x : AV} {lo hi mx : Option AV} {ob : List AO} (k : AV → Option ρ) : sliceK TT t x lo hi mx ob k = (sliceK TT t x lo hi mx ob some).bind k := by
  unfold sliceK
  cases mx with
  | some _ => rfl
  | none =>
    simp only
    generalize (TT t).kind = q
    cases q <;> try rfl
    · cases x <;> first | rfl | exact boundK_nat k
    · cases x <;> try rfl
      · exact ite_bound_nat k
      · exact ite_bound_nat k
      · rename_i j
        simp only
        generalize ob.getD j .dead = o
        cases o <;> first | rfl | exact ite_bound_nat k
      · rename_i j off len
        simp only
        generalize ob.getD j .dead = o
        cases o <;> first | rfl | exact ite_bound_nat k

theorem buildK_nat {t : Nat} {parts : List (Nat × AV)} (k : AV → Option ρ) : buildK TT t parts k = (buildK TT t parts some).bind k := by
  unfold buildK
  generalize (TT t).kind = q
  cases q <;> try rfl
  simp only
  split
  · split <;> rfl
  · rfl

theorem lenK_nat {t : Nat} {x : AV} {ob : List AO} (k : AV → Option ρ) : lenK TT t x ob k = (lenK TT t x ob some).bind k := by
  unfold lenK
  generalize (TT t).kind = q
  cases q <;> try rfl
  · cases x <;> rfl
  · cases x <;> try rfl
    · rename_i j
      simp only
      generalize ob.getD j .dead = o
      cases o <;> rfl
    · rename_i j _ _
      simp only
      generalize ob.getD j .dead = o
      cases o <;> rfl
  · cases x <;> try rfl
    rename_i j
    simp only
    generalize ob.getD j .dead = o
    cases o <;> rfl

theorem mxgo_nat {mx : Bool} {c : IntKind} (k : AV → Option ρ) : ∀ (l : List AV) (m : Int), mxK.go mx c m l k = (mxK.go mx c m l some).bind k
  | [], m => rfl
  | x :: l, m => by
    cases x <;> try rfl
    exact mxgo_nat k l _

theorem mxK_nat {mx : Bool} {l : List AV} (k : AV → Option ρ) : mxK mx l k = (mxK mx l some).bind k := by
  cases l with
  | nil => rfl
  | cons x l => cases x <;> first | rfl | exact mxgo_nat k l _
end

section
variable {TT : Nat → TI}

def pairK (v : AV) (ob : List AO) : Option (AV × List AO) := some (v, ob)

/-- A called function hands its answer on, whatever is done with it. -/
def FunNat (F : Fun) : Prop := ∀ (ρ : Type) (args : List AV) (ob : List AO) (k : List AV → List AO → Option ρ), F ρ args ob k = (F (List AV × List AO) args ob fun a b => some (a, b)).bind fun x => k x.1 x.2

theorem mkFun_nat (ps : List Ty) (rs : Spec) (f : boxD ps → Option rs.D) : FunNat (mkFun ps rs f) := by
  intro ρ args ob k
  unfold mkFun
  cases ob with
  | cons => rfl
  | nil =>
    simp only [Option.bind_assoc]
    rfl

def OA.nat : OA → Prop
  | .call _ F => FunNat F
  | _ => True

theorem nat_use {ρ : Type} {r : ρ} {ob : List AO} {k : AV → List AO → Option ρ} (X : (ρ : Type) → (AV → Option ρ) → Option ρ) (hX : ∀ ρ k, X ρ k = (X AV some).bind k) (e : X ρ (fun v => k v ob) = some r) :
    ∃ v, X (AV × List AO) (fun v => pairK v ob) = some (v, ob) ∧ k v ob = some r := by
  rw [hX] at e
  simp only [Option.bind_eq_some_iff] at e
  obtain ⟨v, h1, h2⟩ := e
  exact ⟨v, by rw [hX, h1]; rfl, h2⟩

theorem opK_still {ρ : Type} {r : ρ} {h : OA} (hn : h.nat) {o : Op} (hs : h.still o = true) {s : List AV} {ob : List AO} {k : AV → List AO → Option ρ} (e : opK TT h o s ob k = some r) :
    ∃ v, opK TT h o s ob pairK = some (v, ob) ∧ k v ob = some r := by
  cases o with
  | move x => exact ⟨_, rfl, e⟩
  | assign x => exact ⟨_, rfl, e⟩
  | pick c a b =>
    simp only [opK] at e ⊢
    generalize ev s c = q at e
    cases q <;> try cases e
    rename_i t
    cases t
    · exact ⟨_, rfl, e⟩
    · exact ⟨_, rfl, e⟩
  | binOp op t x y u => exact nat_use (fun _ k => binK TT t op (ev s x) (ev s y) k) (fun _ k => binK_nat k) e
  | unOp op t x => exact nat_use (fun _ k => unK op (ev s x) k) (fun _ k => unK_nat k) e
  | load t p => exact nat_use (fun _ k => loadK TT t (ev s p) ob k) (fun _ k => loadK_nat k) e
  | fieldAddr t p f => exact nat_use (fun _ k => fieldAddrK TT t (ev s p) f k) (fun _ k => fieldAddrK_nat k) e
  | field t x f => exact nat_use (fun _ k => fieldK TT t (ev s x) f k) (fun _ k => fieldK_nat k) e
  | indexAddr t x i => exact nat_use (fun _ k => indexAddrK TT t (ev s x) (ev s i) ob k) (fun _ k => indexAddrK_nat k) e
  | index t x i => exact nat_use (fun _ k => indexK TT t (ev s x) (ev s i) k) (fun _ k => indexK_nat k) e
  | slice t x lo hi mx => exact nat_use (fun _ k => sliceK TT t (ev s x) (lo.map (ev s)) (hi.map (ev s)) (mx.map (ev s)) ob k) (fun _ k => sliceK_nat k) e
  | build t parts => exact nat_use (fun _ k => buildK TT t (parts.toList.map fun (p : Nat × Operand) => (p.1, ev s p.2)) k) (fun _ k => buildK_nat k) e
  | extract x i =>
    simp only [opK] at e ⊢
    generalize ev s x = q at e
    cases q <;> try cases e
    simp only at e ⊢
    split at e
    · rename_i hi; rw [if_pos hi]; exact ⟨_, rfl, e⟩
    · cases e
  | nilCheck x =>
    simp only [opK] at e ⊢
    generalize ev s x = q at e
    cases q <;> first | cases e; done | exact ⟨_, rfl, e⟩
  | convert src dst x =>
    cases h <;> try cases hs
    rename_i T
    simp only [opK] at e ⊢
    split at e
    · cases e
    · rename_i hk
      rw [if_neg hk]
      unfold convertK at e ⊢
      generalize (TT src).kind = q1 at e ⊢
      generalize (TT dst).kind = q2 at e ⊢
      generalize ev s x = q3 at e ⊢
      split at e
      · cases q1 <;> exact ⟨_, rfl, e⟩
      · cases q1 <;> exact ⟨_, rfl, e⟩
      · rename_i el str
        generalize (TT el).kind = q4 at e ⊢
        cases q4 <;> try cases e
        rename_i ik
        cases ik <;> first | cases e; done | exact ⟨_, rfl, e⟩
      · rename_i el hno
        have key : ∀ y, (∀ (s : List UInt8), y = AV.str s → False) → ((match (TT el).kind with
            | .int .u8 => (listOf (.int .u8) y ob).bind fun xs => k (.str (xs.map fun (n : Int) => UInt8.ofNat n.toNat)) ob
            | _ => none) = some r) → ∃ v, (match (TT el).kind with
            | .int .u8 => (listOf (.int .u8) y ob).bind fun xs => pairK (.str (xs.map fun (n : Int) => UInt8.ofNat n.toNat)) ob
            | _ => none) = some (v, ob) ∧ k v ob = some r := by
          intro y _ e
          generalize (TT el).kind = q4 at e ⊢
          cases q4 <;> try cases e
          rename_i ik
          cases ik <;> try cases e
          simp only [Option.bind_eq_some_iff] at e
          obtain ⟨xs, h1, h2⟩ := e
          exact ⟨_, by simp only [h1]; rfl, h2⟩
        cases q3 <;> first
          | exact (hno _ rfl).elim
          | exact key _ (fun s h => by cases h) e
      · cases e
  | buildSlice t len parts =>
    cases h <;> try cases hs
    rename_i T
    simp only [opK, buildSliceK] at e ⊢
    generalize (TT t).kind = q at e
    cases q <;> try cases e
    simp only at e ⊢
    split at e
    · rename_i hc
      rw [if_pos hc]
      simp only [Option.bind_eq_some_iff] at e
      obtain ⟨xs, h1, h2⟩ := e
      exact ⟨_, by rw [h1]; rfl, h2⟩
    · cases e
  | call c =>
    obtain ⟨callee, args, argTypes⟩ := c
    cases callee with
    | invoke rv m => cases hs
    | builtin b =>
      cases b <;> try cases hs
      · simp only [opK] at e ⊢
        generalize args.toList = l1 at e
        generalize argTypes.toList = l2 at e
        match l1, l2 with
        | [x], [t] => exact nat_use (fun _ k => lenK TT t (ev s x) ob k) (fun _ k => lenK_nat k) e
        | [], _ => cases e
        | [_], [] => cases e
        | [_], _ :: _ :: _ => cases e
        | _ :: _ :: _, _ => cases e
      · exact nat_use (fun _ k => mxK true (args.toList.map (ev s)) k) (fun _ k => mxK_nat k) e
      · exact nat_use (fun _ k => mxK false (args.toList.map (ev s)) k) (fun _ k => mxK_nat k) e
    | value f =>
      simp only [opK] at e ⊢
      cases h <;> try cases e
      rename_i fid F
      simp only at e ⊢
      split at e
      · rename_i g first cap hf
        split at e
        · rename_i hg
          rw [if_pos hg]
          unfold callK at e ⊢
          split at e
          · rename_i hfl
            rw [if_pos hfl]
            rw [hn] at e ⊢
            simp only [Option.bind_eq_some_iff] at e
            obtain ⟨⟨res, os⟩, h1, h2⟩ := e
            rw [h1]
            cases os with
            | cons => cases h2
            | nil =>
              simp only at h2
              split at h2
              · rename_i hr
                exact ⟨_, by simp only [Option.bind_some]; rw [if_pos hr]; rfl, h2⟩
              · cases h2
          · cases e
        · cases e
      · cases e
  | _ => cases hs

theorem ev_congr {s s' : List AV} {x : Operand} (h : ∀ t, x = .tmp t → s.getD t .dead = s'.getD t .dead) : ev s x = ev s' x := by
  cases x with
  | tmp t => exact h t rfl
  | _ => rfl

theorem mem_opTmps {o : Op} {t : Nat} : t ∈ opTmps o ↔ Operand.tmp t ∈ o.operands.toList := by
  unfold opTmps
  rw [List.mem_filterMap]
  constructor
  · rintro ⟨x, hx, h⟩
    cases x <;> try cases h
    exact hx
  · intro h
    exact ⟨_, h, rfl⟩

theorem opK_congr {ρ : Type} {h : OA} {o : Op} (hs : h.still o = true) {s s' : List AV} (hc : ∀ t, t ∈ opTmps o → s.getD t .dead = s'.getD t .dead) {ob : List AO} {k : AV → List AO → Option ρ} :
    opK TT h o s ob k = opK TT h o s' ob k := by
  have hev : ∀ x ∈ o.operands.toList, ev s x = ev s' x := fun x hx => ev_congr fun t ht => hc t (mem_opTmps.2 (ht ▸ hx))
  have hmap : ∀ (l : List (Nat × Operand)), (∀ p ∈ l, p.2 ∈ o.operands.toList) → (l.map fun p => (p.1, ev s p.2)) = l.map fun p => (p.1, ev s' p.2) := fun l hl =>
    List.map_congr_left fun p hp => by rw [hev p.2 (hl p hp)]
  have hmap2 : ∀ (l : List Operand), (∀ p ∈ l, p ∈ o.operands.toList) → l.map (ev s) = l.map (ev s') := fun l hl => List.map_congr_left fun p hp => hev p (hl p hp)
  cases o with
  | move x => simp only [opK, hev x (by simp [Op.operands])]
  | assign x => simp only [opK, hev x (by simp [Op.operands])]
  | pick c a b => simp only [opK, hev c (by simp [Op.operands]), hev a (by simp [Op.operands]), hev b (by simp [Op.operands])]
  | binOp op t x y u => simp only [opK, hev x (by simp [Op.operands]), hev y (by simp [Op.operands])]
  | unOp op t x => simp only [opK, hev x (by simp [Op.operands])]
  | load t p => simp only [opK, hev p (by simp [Op.operands])]
  | fieldAddr t p f => simp only [opK, hev p (by simp [Op.operands])]
  | field t x f => simp only [opK, hev x (by simp [Op.operands])]
  | indexAddr t x i => simp only [opK, hev x (by simp [Op.operands]), hev i (by simp [Op.operands])]
  | index t x i => simp only [opK, hev x (by simp [Op.operands]), hev i (by simp [Op.operands])]
  | slice t x lo hi mx =>
    have h1 : lo.map (ev s) = lo.map (ev s') := by
      cases lo with
      | none => rfl
      | some y => simp [hev y (by simp [Op.operands])]
    have h2 : hi.map (ev s) = hi.map (ev s') := by
      cases hi with
      | none => rfl
      | some y => simp [hev y (by simp [Op.operands])]
    have h3 : mx.map (ev s) = mx.map (ev s') := by
      cases mx with
      | none => rfl
      | some y => simp [hev y (by simp [Op.operands])]
    simp only [opK, hev x (by simp [Op.operands]), h1, h2, h3]
  | build t parts => simp only [opK, hmap parts.toList (fun p hp => by simp [Op.operands]; exact ⟨p.1, by simpa using hp⟩)]
  | extract x i => simp only [opK, hev x (by simp [Op.operands])]
  | nilCheck x => simp only [opK, hev x (by simp [Op.operands])]
  | convert src dst x => simp only [opK, hev x (by simp [Op.operands])]
  | buildSlice t len parts => simp only [opK, hmap parts.toList (fun p hp => by simp [Op.operands]; exact ⟨p.1, by simpa using hp⟩)]
  | call c =>
    obtain ⟨callee, args, argTypes⟩ := c
    cases callee with
    | invoke rv m => cases hs
    | builtin b =>
      have hl := hmap2 args.toList (fun p hp => by simp [Op.operands, Call.operands]; simpa using hp)
      cases b <;> try cases hs
      · simp only [opK]
        generalize hal : args.toList = l1 at hl
        generalize argTypes.toList = l2
        match l1, l2 with
        | [x], [t] =>
          have : ev s x = ev s' x := by simpa using hl
          simp only [this]
        | [], _ => rfl
        | [_], [] => rfl
        | [_], _ :: _ :: _ => rfl
        | _ :: _ :: _, _ => rfl
      · simp only [opK, hl]
      · simp only [opK, hl]
    | value f =>
      have hl := hmap2 args.toList (fun p hp => by simp [Op.operands, Call.operands]; exact .inr (by simpa using hp))
      simp only [opK, hl, hev f (by simp [Op.operands, Call.operands])]
  | _ => cases hs

/-! ### The run in the order of the text -/

/-- An operation with its guard. -/
noncomputable def opG (TT : Nat → TI) (all : List Oper) (h : OA) (o : Oper) (s : List AV) (ob : List AO) : Option (AV × List AO) :=
  match o.guard with
  | none => opK TT h o.op s ob pairK
  | some (g, want) =>
    match (all[g]?).bind (·.dst) with
    | none => none
    | some d =>
      match s.getD d .dead with
      | .bool b => if b = want then opK TT h o.op s ob pairK else some (.undef, ob)
      | .undef => some (.undef, ob)
      | _ => none

theorem opG_congr {all : List Oper} {h : OA} {o : Oper} (hs : h.still o.op = true) {s s' : List AV} {ob : List AO} (hc : ∀ t, t ∈ gTmps all o → s.getD t .dead = s'.getD t .dead) :
    opG TT all h o s ob = opG TT all h o s' ob := by
  unfold opG
  unfold gTmps at hc
  cases hg : o.guard with
  | none => rw [hg] at hc; exact opK_congr hs hc
  | some gw =>
    obtain ⟨g, want⟩ := gw
    rw [hg] at hc
    simp only at hc ⊢
    cases hd : (all[g]?).bind (·.dst) with
    | none => rfl
    | some d =>
      rw [hd] at hc
      simp only at hc ⊢
      rw [hc d List.mem_cons_self]
      cases hv : s'.getD d .dead <;> try rfl
      simp only
      split
      · exact opK_congr hs fun t ht => hc t (List.mem_cons_of_mem _ ht)
      · rfl

theorem set_getD {s : List AV} {d : Nat} {b : Bool} (h : s.getD d .dead = .bool b) : s.set d (.bool b) = s := by
  by_cases hd : d < s.length
  · have : s[d] = .bool b := by simpa [List.getD, hd] using h
    rw [← this]; exact List.set_getElem_self hd
  · rw [List.set_eq_of_length_le (Nat.le_of_not_lt hd)]

def putL (s : List AV) (d : Option Nat) (v : AV) : List AV :=
  match d with
  | some d => s.set d v
  | none => s

inductive Run (all : List Oper) (ob : List AO) : List Oper → List OA → List AV → List AV → List AV → Prop
  | nil (hs : List OA) (s : List AV) : Run all ob [] hs s [] s
  | cons (o : Oper) (os : List Oper) (hs : List OA) (s : List AV) (v : AV) (vs s' : List AV) (h : opG TT all (hs.headD .std) o s ob = some (v, ob)) (t : Run all ob os hs.tail (putL s o.dst v) vs s') :
      Run all ob (o :: os) hs s (v :: vs) s'

theorem run_keep {all : List Oper} {ob : List AO} {os : List Oper} {hs : List OA} {s vs s' : List AV} (h : Run (TT := TT) all ob os hs s vs s') {t : Nat} (ht : ∀ p ∈ os, p.dst ≠ some t) : s'.getD t .dead = s.getD t .dead := by
  induction h with
  | nil => rfl
  | cons o os hs s v vs s' h _ ih =>
    rw [ih fun p hp => ht p (List.mem_cons_of_mem _ hp)]
    have := ht o List.mem_cons_self
    cases hd : o.dst with
    | none => rfl
    | some d =>
      have hne : d ≠ t := fun e => this (by rw [hd, e])
      simp [putL, List.getD, hne]

theorem run_len {all : List Oper} {ob : List AO} {os : List Oper} {hs : List OA} {s vs s' : List AV} (h : Run (TT := TT) all ob os hs s vs s') : s'.length = s.length := by
  induction h with
  | nil => rfl
  | cons o os hs s v vs s' h _ ih =>
    rw [ih]
    cases o.dst <;> simp [putL]

theorem drwOps_w {all : List Oper} : ∀ (l : List Oper) (j : Nat) (w : List (Nat × Nat)), drwOps all l j w = true → ∀ p ∈ l, ∀ x ∈ w, p.dst ≠ some x.1
  | [], _, _, _, p, hp, _, _ => by cases hp
  | o :: r, j, w, h, p, hp, x, hx => by
    simp only [drwOps, Bool.and_eq_true] at h
    obtain ⟨⟨⟨⟨_, _⟩, _⟩, h5⟩, h6⟩ := h
    rcases List.mem_cons.1 hp with rfl | hp
    · intro e
      rw [e] at h5
      have := List.all_eq_true.1 h5 x hx
      simp at this
    · refine drwOps_w r (j + 1) _ h6 p hp x ?_
      split
      · exact List.mem_cons_of_mem _ hx
      · exact hx

/-- What holds at the end of the run, operation by operation: hints hs, operations l from place j on. -/
theorem run_facts {all : List Oper} {ob : List AO} {os : List Oper} {hs : List OA} {s vs s' : List AV} (h : Run (TT := TT) all ob os hs s vs s') : ∀ (j : Nat) (w : List (Nat × Nat)), drwOps all os j w = true → (∀ i o, os[i]? = some o → (hs.getD i .std).still o.op = true) →
    ∀ i o, os[i]? = some o → opG TT all (hs.getD i .std) o s' ob = some (vs.getD i .dead, ob) ∧ ∀ d, o.dst = some d → d < s.length → s'.getD d .dead = vs.getD i .dead := by
  induction h with
  | nil => intro j w _ _ i o hi; simp at hi
  | cons o os hs s v vs s' h ht ih =>
    intro j w hd hst i p hi
    have hd' := hd
    simp only [drwOps, Bool.and_eq_true] at hd
    obtain ⟨⟨⟨⟨_, _⟩, h4⟩, h5⟩, h6⟩ := hd
    cases i with
    | zero =>
      simp only [List.getElem?_cons_zero, Option.some.injEq] at hi
      subst hi
      have hh : hs.getD 0 .std = hs.headD .std := by cases hs <;> rfl
      rw [hh, List.getD_cons_zero]
      refine ⟨?_, fun d hdd hlt => ?_⟩
      · rw [← h]
        refine opG_congr (by have := hst 0 o rfl; rwa [hh] at this) fun t ht2 => ?_
        have hall := List.all_eq_true.1 h4 t ht2
        have hno : ∀ p ∈ o :: os, p.dst ≠ some t := fun p hp e => by
          have := List.all_eq_true.1 hall p hp
          simp [e] at this
        exact run_keep (.cons o os hs s v vs s' h ht) hno
      · have hno : ∀ p ∈ os, p.dst ≠ some d := fun p hp => by
          rw [hdd] at h6
          exact drwOps_w os (j + 1) ((d, j) :: w) h6 p hp (d, j) List.mem_cons_self
        rw [run_keep ht hno, hdd]
        simp [putL, List.getD, hlt]
    | succ i =>
      simp only [List.getElem?_cons_succ] at hi
      have hh : ∀ i, hs.getD (i + 1) .std = hs.tail.getD i .std := fun i => by cases hs <;> simp [List.getD]
      obtain ⟨e1, e2⟩ := ih (j + 1) _ h6 (fun i o hi => by rw [← hh]; exact hst (i + 1) o (by simpa using hi)) i p hi
      rw [hh, List.getD_cons_succ]
      refine ⟨e1, fun d hdd hlt => e2 d hdd ?_⟩
      cases o.dst <;> simpa [putL] using hlt

theorem drwOps_static {all : List Oper} : ∀ (l : List Oper) (j : Nat) (w : List (Nat × Nat)), drwOps all l j w = true → ∀ i o, l[i]? = some o →
    (∀ e ∈ o.after.toList, Region.binds .any e = true → e.on < j + i) ∧
    (∀ t ∈ gTmps all o, (∀ x ∈ w, x.1 = t → bindsTo o x.2 = true) ∧ ∀ (q : Nat) (p : Oper), l[q]? = some p → p.dst = some t → bindsTo o (j + q) = true) ∧
    (∀ (q : Nat) (p : Oper) (d : Nat), l[q]? = some p → o.dst = some d → p.dst = some d → q = i)
  | [], _, _, _, i, o, hi => by simp at hi
  | o0 :: r, j, w, h, i, o, hi => by
    have hw := drwOps_w _ _ _ h
    simp only [drwOps, Bool.and_eq_true] at h
    obtain ⟨⟨⟨⟨h2, h3⟩, h4⟩, h5⟩, h6⟩ := h
    have hrest : ∀ (q : Nat) (p : Oper) (d : Nat), r[q]? = some p → o0.dst = some d → p.dst ≠ some d := fun q p d hq hd => by
      rw [hd] at h6
      exact drwOps_w r (j + 1) ((d, j) :: w) h6 p (List.mem_of_getElem? hq) (d, j) List.mem_cons_self
    cases i with
    | zero =>
      simp only [List.getElem?_cons_zero, Option.some.injEq] at hi
      subst hi
      refine ⟨fun e he hb => ?_, fun t ht => ⟨fun x hx hxt => ?_, fun q p hq hp => ?_⟩, fun q p d hq hd hp => ?_⟩
      · have := List.all_eq_true.1 h2 e he
        simp [hb] at this
        omega
      · have := List.all_eq_true.1 (List.all_eq_true.1 h3 t ht) x hx
        simpa [hxt] using this
      · have := List.all_eq_true.1 (List.all_eq_true.1 h4 t ht) p (List.mem_of_getElem? hq)
        simp [hp] at this
      · cases q with
        | zero => rfl
        | succ q => exact absurd hp (hrest q p d (by simpa using hq) hd)
    | succ i =>
      simp only [List.getElem?_cons_succ] at hi
      obtain ⟨e2, e3, e4⟩ := drwOps_static r (j + 1) _ h6 i o hi
      refine ⟨fun e he hb => by have := e2 e he hb; omega, fun t ht => ⟨fun x hx hxt => (e3 t ht).1 x ?_ hxt, fun q p hq hp => ?_⟩, fun q p d hq hd hp => ?_⟩
      · split
        · exact List.mem_cons_of_mem _ hx
        · exact hx
      · cases q with
        | zero =>
          simp only [List.getElem?_cons_zero, Option.some.injEq] at hq
          subst hq
          have := (e3 t ht).1 (t, j) (by rw [hp]; exact List.mem_cons_self) rfl
          simpa using this
        | succ q =>
          have := (e3 t ht).2 q p (by simpa using hq) hp
          rw [show j + (q + 1) = j + 1 + q by omega]; exact this
      · cases q with
        | zero =>
          simp only [List.getElem?_cons_zero, Option.some.injEq] at hq
          subst hq
          exact absurd hd (hrest i o d hi hp)
        | succ q =>
          have := e4 q p d (by simpa using hq) hd hp
          omega

theorem putL_put {s : List AV} {ob : List AO} {d : Option Nat} {v : AV} : (({ sl := s, ob := ob } : St).put d v) = ⟨putL s d v, ob⟩ := by cases d <;> rfl

theorem opsK_step {ρ : Type} {r : ρ} {all : List Oper} {k : St → Option ρ} {o : Oper} {os : List Oper} {hs : List OA} {s : List AV} {ob : List AO} (hn : (hs.headD .std).nat) (hst : (hs.headD .std).still o.op = true)
    (e : opsK TT all (o :: os) hs ⟨s, ob⟩ k = some r) : ∃ v, opG TT all (hs.headD .std) o s ob = some (v, ob) ∧ opsK TT all os hs.tail ⟨putL s o.dst v, ob⟩ k = some r := by
  simp only [opsK] at e
  unfold opG
  cases hg : o.guard with
  | none =>
    rw [hg] at e
    obtain ⟨v, h1, h2⟩ := opK_still hn hst e
    rw [putL_put] at h2
    exact ⟨v, h1, h2⟩
  | some gw =>
    obtain ⟨g, want⟩ := gw
    rw [hg] at e
    simp only at e ⊢
    cases hd : (all[g]?).bind (·.dst) with
    | none => rw [hd] at e; cases e
    | some d =>
      rw [hd] at e
      simp only at e ⊢
      cases hv : s.getD d .dead <;> rw [hv] at e <;> first | cases e; done | skip
      · rename_i b
        simp only at e ⊢
        split at e
        · rename_i hb
          subst hb
          rw [if_pos rfl]
          rw [set_getD hv] at e
          obtain ⟨v, h1, h2⟩ := opK_still hn hst e
          rw [putL_put] at h2
          exact ⟨v, h1, h2⟩
        · rename_i hb
          have hb2 : (!want) = b := by cases want <;> cases b <;> simp_all
          rw [if_neg hb]
          rw [hb2, set_getD hv, putL_put] at e
          exact ⟨_, rfl, e⟩
      · simp only at e ⊢
        rw [putL_put] at e
        exact ⟨_, rfl, e⟩

/-- The text's order gives a run of the still operations, and what is left. -/
theorem opsK_run {ρ : Type} {r : ρ} {all : List Oper} {k : St → Option ρ} : ∀ (os1 os2 : List Oper) (hs : List OA) (st : St), (∀ h ∈ hs, h.nat) → (∀ i o, os1[i]? = some o → (hs.getD i .std).still o.op = true) →
    opsK TT all (os1 ++ os2) hs st k = some r → ∃ vs s', Run (TT := TT) all st.ob os1 hs st.sl vs s' ∧ opsK TT all os2 (hs.drop os1.length) ⟨s', st.ob⟩ k = some r
  | [], os2, hs, st, _, _, e => ⟨[], st.sl, .nil hs st.sl, e⟩
  | o :: os1, os2, hs, st, hn, hst, e => by
    have hh : hs.getD 0 .std = hs.headD .std := by cases hs <;> rfl
    have h0 := hst 0 o rfl
    rw [hh] at h0
    have hnat : (hs.headD .std).nat := by
      cases hs with
      | nil => trivial
      | cons h hs => exact hn h List.mem_cons_self
    obtain ⟨v, h1, h2⟩ := opsK_step (o := o) (os := os1 ++ os2) (s := st.sl) (ob := st.ob) hnat h0 e
    have hh2 : ∀ i, hs.getD (i + 1) .std = hs.tail.getD i .std := fun i => by cases hs <;> simp [List.getD]
    obtain ⟨vs, s', h3, h4⟩ := opsK_run os1 os2 hs.tail _ (fun h hm => hn h (List.mem_of_mem_tail hm)) (fun i o hi => by rw [← hh2]; exact hst (i + 1) o (by simpa using hi)) h2
    refine ⟨v :: vs, s', .cons o os1 hs st.sl v vs s' h1 h3, ?_⟩
    have e3 : hs.drop (os1.length + 1) = hs.tail.drop os1.length := by cases hs <;> simp
    simp only [List.length_cons, e3]
    exact h4

theorem drwOps_prefix {all : List Oper} : ∀ (l m : List Oper) (j : Nat) (w : List (Nat × Nat)), drwOps all (l ++ m) j w = true → drwOps all l j w = true
  | [], _, _, _, _ => rfl
  | o :: r, m, j, w, h => by
    simp only [List.cons_append, drwOps, Bool.and_eq_true] at h ⊢
    obtain ⟨⟨⟨⟨h2, h3⟩, h4⟩, h5⟩, h6⟩ := h
    refine ⟨⟨⟨⟨h2, h3⟩, ?_⟩, h5⟩, drwOps_prefix r m _ _ h6⟩
    rw [List.all_eq_true] at h4 ⊢
    intro t ht
    have := h4 t ht
    rw [List.all_eq_true] at this ⊢
    intro p hp
    refine this p ?_
    rcases List.mem_cons.1 hp with rfl | hp
    · exact List.mem_cons_self
    · exact List.mem_cons_of_mem _ (List.mem_append_left _ hp)

theorem drwStill_spec : ∀ (l : List Oper) (hs : List OA), drwStill l hs = true → ∀ i o, l[i]? = some o → i + 1 < l.length → (hs.getD i .std).still o.op = true
  | [], _, _, i, o, hi, _ => by simp at hi
  | [_], _, _, i, o, _, hl => by simp at hl
  | o0 :: p :: r, hs, h, i, o, hi, hl => by
    simp only [drwStill, Bool.and_eq_true] at h
    have hh : hs.getD 0 .std = hs.headD .std := by cases hs <;> rfl
    have hh2 : ∀ i, hs.getD (i + 1) .std = hs.tail.getD i .std := fun i => by cases hs <;> simp [List.getD]
    cases i with
    | zero =>
      simp only [List.getElem?_cons_zero, Option.some.injEq] at hi
      subst hi
      rw [hh]; exact h.1
    | succ i =>
      rw [hh2]
      exact drwStill_spec (p :: r) hs.tail h.2 i o (by simpa using hi) (by simpa using hl)

theorem lastStill_spec : ∀ (l : List Oper) (hs : List OA), lastStill l hs = true → ∀ i o, l[i]? = some o → i + 1 = l.length → (hs.getD i .std).still o.op = true
  | [], _, _, i, o, hi, _ => by simp at hi
  | [o0], hs, h, i, o, hi, hl => by
    have h0 : i = 0 := by simpa using hl
    subst h0
    simp only [List.getElem?_cons_zero, Option.some.injEq] at hi
    subst hi
    have hh : hs.getD 0 .std = hs.headD .std := by cases hs <;> rfl
    rw [hh]; exact h
  | o0 :: p :: r, hs, h, i, o, hi, hl => by
    have hh2 : ∀ i, hs.getD (i + 1) .std = hs.tail.getD i .std := fun i => by cases hs <;> simp [List.getD]
    cases i with
    | zero => simp at hl
    | succ i =>
      rw [hh2]
      exact lastStill_spec (p :: r) hs.tail h i o (by simpa using hi) (by simpa using hl)

theorem drwBack_spec : ∀ (l : List Oper) (j : Nat), drwBack l j = true → ∀ i o, l[i]? = some o → ∀ e ∈ o.after.toList, Region.binds .any e = true → e.on < j + i
  | [], _, _, i, o, hi, _, _, _ => by simp at hi
  | o0 :: r, j, h, i, o, hi, e, he, hb => by
    simp only [drwBack, Bool.and_eq_true] at h
    cases i with
    | zero =>
      simp only [List.getElem?_cons_zero, Option.some.injEq] at hi
      subst hi
      have := List.all_eq_true.1 h.1 e he
      simp [hb] at this
      omega
    | succ i =>
      have := drwBack_spec r (j + 1) h.2 i o (by simpa using hi) e he hb
      omega

theorem lastPlain_spec : ∀ (l : List Oper) (o : Oper), lastPlain (l ++ [o]) = true → o.guard = none
  | [], o, h => by
    cases hg : o.guard with
    | none => rfl
    | some g => simp [lastPlain, hg] at h
  | [_], o, h => lastPlain_spec [] o (by simpa [lastPlain] using h)
  | _ :: p :: r, o, h => lastPlain_spec (p :: r) o (by simpa [lastPlain] using h)

theorem boundTo_listed {ops : Array Oper} {listed : Array Bool} (hcl : ∀ j o, ops[j]? = some o → listed.getD j false = true → ∀ e ∈ o.after.toList, Region.binds .any e = true → listed.getD e.on false = true) :
    ∀ (fuel j : Nat), (∀ o, ops[j]? = some o → ∀ e ∈ o.after.toList, Region.binds .any e = true → listed.getD e.on false = true) → ∀ i ∈ boundTo ops.toList fuel j, listed.getD i false = true
  | 0, _, _, i, hi => by cases hi
  | fuel + 1, j, h, i, hi => by
    simp only [boundTo] at hi
    cases ho : ops.toList[j]? with
    | none => rw [ho] at hi; cases hi
    | some o =>
      rw [ho] at hi
      have ho' : ops[j]? = some o := by simpa using ho
      simp only [List.mem_flatMap, List.mem_filter] at hi
      obtain ⟨e, ⟨he, hb⟩, hi⟩ := hi
      have hle := h o ho' e he hb
      rcases List.mem_cons.1 hi with rfl | hi
      · exact hle
      · exact boundTo_listed hcl fuel e.on (fun o2 ho2 => hcl e.on o2 ho2 hle) i hi
end

end Go.Proofs.Ytldmeogadmgkiaa.Abs
