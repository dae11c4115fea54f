/- Regions that draw their order: whatever the order, the same comes out. -/
import Derived.Test.YtlbammfnkphajaaGreatDoorAbsOpsI
import Derived.Orders
namespace Go.Proofs.YtlbammfnkphajaaGreatDoor.Abs
open Go
set_option linter.unusedVariables false

section
variable {ρ : Type} {TT : Nat → TI}

/-! ### An operation answers its continuation's question by one value -/

theorem binInt_nat {op : BinOp} {a : IntKind} {m n : Int} (k : AV → Option ρ) : binInt op a m n k = (binInt op a m n some).bind k := by
  cases op <;> simp only [binInt] <;> first | rfl | (split <;> rfl)

theorem binStr_nat {op : BinOp} {s t : List UInt8} (k : AV → Option ρ) : binStr op s t k = (binStr op s t some).bind k := by
  cases op <;> simp only [binStr] <;> first | rfl | (split <;> rfl)

theorem binK_nat {t : Nat} {op : BinOp} {x y : AV} (k : AV → Option ρ) : binK TT t op x y k = (binK TT t op x y some).bind k := by
  cases x <;> cases y <;> try rfl
  · rename_i a m b n
    cases op <;> simp only [binK] <;> (split <;> first | rfl | exact binInt_nat k)
  · simp only [binK]
    generalize (TT t).kind = q
    cases q <;> cases op <;> rfl
  · exact binStr_nat k

theorem nilPK_nat {t : Nat} {op : BinOp} {x y : AV} (k : AV → Option ρ) : nilPK TT t op x y k = (nilPK TT t op x y some).bind k := by
  unfold nilPK
  split
  · rfl
  · split <;> rfl

theorem unK_nat {op : UnOp} {x : AV} (k : AV → Option ρ) : unK op x k = (unK op x some).bind k := by
  cases op <;> cases x <;> rfl

theorem loadCs_nat {t sub : Nat} {cs : List AV} (k : AV → Option ρ) : loadCs TT t sub cs k = (loadCs TT t sub cs some).bind k := by
  unfold loadCs
  by_cases h : (TT t).kind.isOther = true
  · rw [if_pos h, if_pos h]; rfl
  · rw [if_neg h, if_neg h]
    by_cases h2 : sub + (if (TT t).kind.isAgg = true then (TT t).size else 1) ≤ cs.length
    · rw [if_pos h2, if_pos h2]; rfl
    · rw [if_neg h2, if_neg h2]; rfl

theorem loadK_nat {t : Nat} {p : AV} {ob : List AO} (k : AV → Option ρ) : loadK TT t p ob k = (loadK TT t p ob some).bind k := by
  cases p <;> try rfl
  · exact loadCs_nat k
  · rename_i j i sub
    simp only [loadK]
    generalize ob.getD j .dead = o
    cases o <;> first | rfl | exact loadCs_nat k
  · exact loadCs_nat k

theorem fieldAddrK_nat {s f : Nat} {p : AV} (k : AV → Option ρ) : fieldAddrK TT s p f k = (fieldAddrK TT s p f some).bind k := by
  unfold fieldAddrK
  generalize fieldAt TT s f = o
  cases o with
  | none => rfl
  | some x =>
    simp only
    by_cases h : (TT x.1).size = 0 ∨ (TT x.1).kind.isOther = true
    · rw [if_pos h, if_pos h]; rfl
    · rw [if_neg h, if_neg h]
      cases p <;> rfl

theorem fieldK_nat {s f : Nat} {x : AV} (k : AV → Option ρ) : fieldK TT s x f k = (fieldK TT s x f some).bind k := by
  unfold fieldK
  generalize fieldAt TT s f = o
  cases o with
  | none => rfl
  | some y =>
    cases x <;> first | rfl | exact loadCs_nat k

theorem ite2_nat {c d : Prop} [Decidable c] [Decidable d] (v : AV) (k : AV → Option ρ) :
    (if c then (if d then k v else none) else none) = (if c then (if d then some v else none) else none : Option AV).bind k := by
  by_cases hc : c <;> by_cases hd : d <;> simp [hc, hd]

theorem indexAddrK_nat {t : Nat} {x i : AV} {ob : List AO} (k : AV → Option ρ) : indexAddrK TT t x i ob k = (indexAddrK TT t x i ob some).bind k := by
  unfold indexAddrK
  generalize (TT t).kind = q
  cases q <;> cases i <;> try rfl
  · cases x <;> try rfl
    · exact ite2_nat _ k
    · rename_i j
      simp only
      generalize ob.getD j .dead = o
      cases o <;> first | rfl | exact ite2_nat _ k
    · rename_i j off len
      simp only
      generalize ob.getD j .dead = o
      cases o <;> first | rfl | exact ite2_nat _ k
    · exact ite2_nat _ k
  · cases x <;> simp only <;> split <;> first | rfl | (split <;> rfl)

theorem indexK_nat {t : Nat} {x i : AV} (k : AV → Option ρ) : indexK TT t x i k = (indexK TT t x i some).bind k := by
  unfold indexK
  generalize (TT t).kind = q
  cases q <;> cases x <;> cases i <;> try rfl
  simp only
  split <;> rfl

theorem boundK_nat {lo hi : Option AV} {n : Nat} {g : Int → Int → AV} (k : AV → Option ρ) : (boundK lo hi n fun l h => k (g l h)) = (boundK lo hi n fun l h => some (g l h)).bind k := by
  cases lo with
  | none =>
    cases hi with
    | none => rfl
    | some y => cases y <;> first | rfl | (simp only [boundK]; split <;> rfl)
  | some x =>
    cases hi with
    | none => cases x <;> first | rfl | (simp only [boundK]; split <;> rfl)
    | some y => cases x <;> cases y <;> first | rfl | (simp only [boundK]; split <;> rfl)

theorem ite_bound_nat {c : Prop} [Decidable c] {lo hi : Option AV} {n : Nat} {g : Int → Int → AV} (k : AV → Option ρ) :
    (if c then boundK lo hi n fun l h => k (g l h) else none) = (if c then boundK lo hi n fun l h => some (g l h) else none : Option AV).bind k := by
  by_cases hc : c
  · rw [if_pos hc, if_pos hc]; exact boundK_nat k
  · rw [if_neg hc, if_neg hc]; rfl

theorem slice3K_nat {t : Nat} {x mx : AV} {lo hi : Option AV} (k : AV → Option ρ) : slice3K TT t x lo hi mx k = (slice3K TT t x lo hi mx some).bind k := by
  unfold slice3K
  split
  · split <;> rfl
  · rfl

theorem sliceK_nat {t : Nat} {x : AV} {lo hi mx : Option AV} {ob : List AO} (k : AV → Option ρ) : sliceK TT t x lo hi mx ob k = (sliceK TT t x lo hi mx ob some).bind k := by
  unfold sliceK
  cases mx with
  | some _ => exact slice3K_nat k
  | none =>
    simp only
    generalize (TT t).kind = q
    cases q <;> try rfl
    · cases x <;> first | rfl | exact boundK_nat k
    · cases x <;> try rfl
      · exact ite_bound_nat k
      · exact ite_bound_nat k
      · rename_i j
        simp only
        generalize ob.getD j .dead = o
        cases o <;> first | rfl | exact ite_bound_nat k
      · rename_i j off len
        simp only
        generalize ob.getD j .dead = o
        cases o <;> first | rfl | exact ite_bound_nat k

theorem buildK_nat {t : Nat} {parts : List (Nat × AV)} (k : AV → Option ρ) : buildK TT t parts k = (buildK TT t parts some).bind k := by
  unfold buildK
  generalize (TT t).kind = q
  cases q <;> try rfl
  · simp only
    split
    · split <;> rfl
    · rfl
  · simp only
    split
    · split <;> rfl
    · rfl

theorem lenK_nat {t : Nat} {x : AV} {ob : List AO} (k : AV → Option ρ) : lenK TT t x ob k = (lenK TT t x ob some).bind k := by
  unfold lenK
  generalize (TT t).kind = q
  cases q <;> try rfl
  · cases x <;> rfl
  · cases x <;> try rfl
    · rename_i j
      simp only
      generalize ob.getD j .dead = o
      cases o <;> rfl
    · rename_i j _ _
      simp only
      generalize ob.getD j .dead = o
      cases o <;> rfl
  · cases x <;> try rfl
    rename_i j
    simp only
    generalize ob.getD j .dead = o
    cases o <;> rfl

theorem mxgo_nat {mx : Bool} {c : IntKind} (k : AV → Option ρ) : ∀ (l : List AV) (m : Int), mxK.go mx c m l k = (mxK.go mx c m l some).bind k
  | [], m => rfl
  | x :: l, m => by
    cases x <;> try rfl
    exact mxgo_nat k l _

theorem mxK_nat {mx : Bool} {l : List AV} (k : AV → Option ρ) : mxK mx l k = (mxK mx l some).bind k := by
  cases l with
  | nil => rfl
  | cons x l => cases x <;> first | rfl | exact mxgo_nat k l _
end

section
variable {TT : Nat → TI}

def pairK (v : AV) (ob : List AO) : Option (AV × List AO) := some (v, ob)

def OA.nat : OA → Prop
  | .callq l => ∀ c ∈ l, FunQuiet c.F
  | _ => True

theorem plain_bare {h : OA} (hp : h.plain = true) : h.pre = [] ∧ h.bare = h := by
  cases h <;> first | exact ⟨rfl, rfl⟩ | cases hp

theorem plain_nns {h : OA} (hp : h.plain = true) : h.nns = [] := by
  cases h <;> first | rfl | cases hp

theorem nnV_nil {ρ : Type} (v : AV) (k : AV → Option ρ) : nnV [] v k = k v := rfl

theorem plain_head {hs : List OA} (h : hs.all OA.plain = true) : (hs.headD .std).pre = [] ∧ (hs.headD .std).bare = hs.headD .std ∧ hs.tail.all OA.plain = true := by
  cases hs with
  | nil => exact ⟨rfl, rfl, rfl⟩
  | cons x l =>
    simp only [List.all_cons, Bool.and_eq_true] at h
    exact ⟨(plain_bare h.1).1, (plain_bare h.1).2, h.2⟩

theorem eqsK_nat {t : Nat} {op : BinOp} {x y : AV} {ρ : Type} (k : AV → Option ρ) : eqsK TT t op x y k = (eqsK TT t op x y some).bind k := by
  unfold eqsK
  split
  · rfl
  · split
    · simp only [Option.bind_assoc]; rfl
    · simp only [Option.bind_assoc]; rfl
    · rfl

theorem lookupK_nat {t : Nat} {x i : AV} {ok : Bool} {ob : List AO} {ρ : Type} (k : AV → Option ρ) : lookupK TT t x i ok ob k = (lookupK TT t x i ok ob some).bind k := by
  unfold lookupK
  split
  · split
    · split
      · simp only [Option.bind_assoc]
        cases ok <;> rfl
      · rfl
    · rfl
  · rfl

theorem nat_use {ρ : Type} {r : ρ} {ob : List AO} {k : AV → List AO → Option ρ} (X : (ρ : Type) → (AV → Option ρ) → Option ρ) (hX : ∀ ρ k, X ρ k = (X AV some).bind k) (e : X ρ (fun v => k v ob) = some r) :
    ∃ v, X (AV × List AO) (fun v => pairK v ob) = some (v, ob) ∧ k v ob = some r := by
  rw [hX] at e
  simp only [Option.bind_eq_some_iff] at e
  obtain ⟨v, h1, h2⟩ := e
  exact ⟨v, by rw [hX, h1]; rfl, h2⟩

theorem opK_still {ρ : Type} {r : ρ} {h : OA} (hn : h.nat) {o : Op} (hs : h.still0 o = true) {s : List AV} {ob : List AO} {k : AV → List AO → Option ρ} (e : opK TT h o s ob k = some r) :
    ∃ v, opK TT h o s ob pairK = some (v, ob) ∧ k v ob = some r := by
  cases o with
  | move x => exact ⟨_, rfl, e⟩
  | assign x => exact ⟨_, rfl, e⟩
  | pick c a b =>
    simp only [opK] at e ⊢
    generalize ev s c = q at e
    cases q <;> try cases e
    rename_i t
    cases t
    · exact ⟨_, rfl, e⟩
    · exact ⟨_, rfl, e⟩
  | binOp op t x y u =>
    have hb : ∀ (e : binK TT t op (ev s x) (ev s y) (fun v => k v ob) = some r), ∃ v, (binK TT t op (ev s x) (ev s y) fun v => pairK v ob) = some (v, ob) ∧ k v ob = some r := fun e =>
      nat_use (fun _ k => binK TT t op (ev s x) (ev s y) k) (fun _ k => binK_nat k) e
    cases h <;> try cases hs
    all_goals first
      | exact hb e
      | exact nat_use (fun _ k => nilPK TT t op (ev s x) (ev s y) k) (fun _ k => nilPK_nat k) e
      | (rename_i t'
         have hq : ∀ {ρ : Type} (k : AV → List AO → Option ρ), opK TT (.eqs t') (.binOp op t x y u) s ob k = (match t' == t with | true => eqsK TT t op (ev s x) (ev s y) fun v => k v ob | false => none) := fun _ => rfl
         rw [hq] at e ⊢
         cases ht : t' == t <;> rw [ht] at e
         · cases e
         · exact nat_use (fun _ k => eqsK TT t op (ev s x) (ev s y) k) (fun _ k => eqsK_nat k) e)
  | lookup t x i ok => exact nat_use (fun _ k => lookupK TT t (ev s x) (ev s i) ok ob k) (fun _ k => lookupK_nat k) e
  | makeFunc fn first cap => exact ⟨_, rfl, e⟩
  | unOp op t x => exact nat_use (fun _ k => unK op (ev s x) k) (fun _ k => unK_nat k) e
  | load t p => exact nat_use (fun _ k => loadK TT t (ev s p) ob k) (fun _ k => loadK_nat k) e
  | fieldAddr t p f => exact nat_use (fun _ k => fieldAddrK TT t (ev s p) f k) (fun _ k => fieldAddrK_nat k) e
  | field t x f => exact nat_use (fun _ k => fieldK TT t (ev s x) f k) (fun _ k => fieldK_nat k) e
  | indexAddr t x i => exact nat_use (fun _ k => indexAddrK TT t (ev s x).fg (ev s i) ob k) (fun _ k => indexAddrK_nat k) e
  | index t x i => exact nat_use (fun _ k => indexK TT t (ev s x) (ev s i) k) (fun _ k => indexK_nat k) e
  | slice t x lo hi mx => exact nat_use (fun _ k => sliceK TT t (ev s x).fg (lo.map (ev s)) (hi.map (ev s)) (mx.map (ev s)) (sliceOb h ob) k) (fun _ k => sliceK_nat k) e
  | build t parts => exact nat_use (fun _ k => buildK TT t (parts.toList.map fun (p : Nat × Operand) => (p.1, ev s p.2)) k) (fun _ k => buildK_nat k) e
  | extract x i =>
    simp only [opK] at e ⊢
    generalize ev s x = q at e
    cases q <;> try cases e
    simp only at e ⊢
    split at e
    · rename_i hi; rw [if_pos hi]; exact ⟨_, rfl, e⟩
    · cases e
  | nilCheck x =>
    simp only [opK] at e ⊢
    generalize ev s x = q at e
    cases q <;> first | cases e; done | exact ⟨_, rfl, e⟩
  | convert src dst x =>
    cases h <;> try cases hs
    rename_i T
    simp only [opK] at e ⊢
    split at e
    · cases e
    · rename_i hk
      rw [if_neg hk]
      unfold convertK at e ⊢
      generalize (TT src).kind = q1 at e ⊢
      generalize (TT dst).kind = q2 at e ⊢
      generalize ev s x = q3 at e ⊢
      split at e
      · cases q1 <;> exact ⟨_, rfl, e⟩
      · cases q1 <;> exact ⟨_, rfl, e⟩
      · rename_i el str
        generalize (TT el).kind = q4 at e ⊢
        cases q4 <;> try cases e
        rename_i ik
        cases ik <;> first | cases e; done | exact ⟨_, rfl, e⟩
      · rename_i el hno
        have key : ∀ y, (∀ (s : List UInt8), y = AV.str s → False) → ((match (TT el).kind with
            | .int .u8 => (listOf (.int .u8) y ob).bind fun xs => k (.str (xs.map fun (n : Int) => UInt8.ofNat n.toNat)) ob
            | _ => none) = some r) → ∃ v, (match (TT el).kind with
            | .int .u8 => (listOf (.int .u8) y ob).bind fun xs => pairK (.str (xs.map fun (n : Int) => UInt8.ofNat n.toNat)) ob
            | _ => none) = some (v, ob) ∧ k v ob = some r := by
          intro y _ e
          generalize (TT el).kind = q4 at e ⊢
          cases q4 <;> try cases e
          rename_i ik
          cases ik <;> try cases e
          simp only [Option.bind_eq_some_iff] at e
          obtain ⟨xs, h1, h2⟩ := e
          exact ⟨_, by simp only [h1]; rfl, h2⟩
        cases q3 <;> first
          | exact (hno _ rfl).elim
          | exact key _ (fun s h => by cases h) e
      · cases e
  | buildSlice t len parts =>
    cases h <;> try cases hs
    rename_i T
    simp only [opK, buildSliceK] at e ⊢
    generalize (TT t).kind = q at e
    cases q <;> try cases e
    simp only at e ⊢
    split at e
    · rename_i hc
      rw [if_pos hc]
      simp only [Option.bind_eq_some_iff] at e
      obtain ⟨xs, h1, h2⟩ := e
      exact ⟨_, by rw [h1]; rfl, h2⟩
    · cases e
  | call c =>
    obtain ⟨callee, args, argTypes⟩ := c
    cases callee with
    | invoke rv m => cases hs
    | builtin b =>
      cases b <;> try cases hs
      · simp only [opK] at e ⊢
        generalize args.toList = l1 at e
        generalize argTypes.toList = l2 at e
        match l1, l2 with
        | [x], [t] => exact nat_use (fun _ k => lenK TT t (ev s x).fg ob k) (fun _ k => lenK_nat k) e
        | [], _ => cases e
        | [_], [] => cases e
        | [_], _ :: _ :: _ => cases e
        | _ :: _ :: _, _ => cases e
      · exact nat_use (fun _ k => mxK true (args.toList.map (ev s)) k) (fun _ k => mxK_nat k) e
      · exact nat_use (fun _ k => mxK false (args.toList.map (ev s)) k) (fun _ k => mxK_nat k) e
    | value f =>
      cases h <;> try cases hs
      rename_i l
      simp only [opK] at e ⊢
      generalize ev s f = q at e ⊢
      cases q <;> try cases e
      rename_i fn first cap
      cases fn <;> try cases e
      rename_i g
      simp only [callQ] at e ⊢
      generalize hc : pickC l g (first ++ args.toList.map (ev s) ++ cap) ob = pc at e ⊢
      cases pc with
      | none => cases e
      | some c =>
        obtain ⟨hm, _⟩ := pickC_mem hc
        have hq := hn c hm
        simp only at e ⊢
        rw [hq] at e ⊢
        simp only [Option.bind_eq_some_iff] at e
        obtain ⟨a, h1, h2⟩ := e
        exact ⟨_, by rw [h1]; rfl, h2⟩
  | _ => cases hs

theorem ev_congr {s s' : List AV} {x : Operand} (h : ∀ t, x = .tmp t → s.getD t .dead = s'.getD t .dead) : ev s x = ev s' x := by
  cases x with
  | tmp t => exact h t rfl
  | _ => rfl

theorem mem_opTmps {o : Op} {t : Nat} : t ∈ opTmps o ↔ Operand.tmp t ∈ o.operands.toList := by
  unfold opTmps
  rw [List.mem_filterMap]
  constructor
  · rintro ⟨x, hx, h⟩
    cases x <;> try cases h
    exact hx
  · intro h
    exact ⟨_, h, rfl⟩

theorem opK_congr {ρ : Type} {h : OA} {o : Op} (hs : h.still0 o = true) {s s' : List AV} (hc : ∀ t, t ∈ opTmps o → s.getD t .dead = s'.getD t .dead) {ob : List AO} {k : AV → List AO → Option ρ} :
    opK TT h o s ob k = opK TT h o s' ob k := by
  have hev : ∀ x ∈ o.operands.toList, ev s x = ev s' x := fun x hx => ev_congr fun t ht => hc t (mem_opTmps.2 (ht ▸ hx))
  have hmap : ∀ (l : List (Nat × Operand)), (∀ p ∈ l, p.2 ∈ o.operands.toList) → (l.map fun p => (p.1, ev s p.2)) = l.map fun p => (p.1, ev s' p.2) := fun l hl =>
    List.map_congr_left fun p hp => by rw [hev p.2 (hl p hp)]
  have hmap2 : ∀ (l : List Operand), (∀ p ∈ l, p ∈ o.operands.toList) → l.map (ev s) = l.map (ev s') := fun l hl => List.map_congr_left fun p hp => hev p (hl p hp)
  cases o with
  | move x => simp only [opK, hev x (by simp [Op.operands])]
  | assign x => simp only [opK, hev x (by simp [Op.operands])]
  | pick c a b => simp only [opK, hev c (by simp [Op.operands]), hev a (by simp [Op.operands]), hev b (by simp [Op.operands])]
  | binOp op t x y u => simp only [opK, hev x (by simp [Op.operands]), hev y (by simp [Op.operands])]
  | unOp op t x => simp only [opK, hev x (by simp [Op.operands])]
  | load t p => simp only [opK, hev p (by simp [Op.operands])]
  | fieldAddr t p f => simp only [opK, hev p (by simp [Op.operands])]
  | field t x f => simp only [opK, hev x (by simp [Op.operands])]
  | indexAddr t x i => simp only [opK, hev x (by simp [Op.operands]), hev i (by simp [Op.operands])]
  | index t x i => simp only [opK, hev x (by simp [Op.operands]), hev i (by simp [Op.operands])]
  | slice t x lo hi mx =>
    have h1 : lo.map (ev s) = lo.map (ev s') := by
      cases lo with
      | none => rfl
      | some y => simp [hev y (by simp [Op.operands])]
    have h2 : hi.map (ev s) = hi.map (ev s') := by
      cases hi with
      | none => rfl
      | some y => simp [hev y (by simp [Op.operands])]
    have h3 : mx.map (ev s) = mx.map (ev s') := by
      cases mx with
      | none => rfl
      | some y => simp [hev y (by simp [Op.operands])]
    simp only [opK, hev x (by simp [Op.operands]), h1, h2, h3]
  | build t parts => simp only [opK, hmap parts.toList (fun p hp => by simp [Op.operands]; exact ⟨p.1, by simpa using hp⟩)]
  | lookup t x i ok => simp only [opK, hev x (by simp [Op.operands]), hev i (by simp [Op.operands])]
  | makeFunc fn first cap =>
    simp only [opK, hmap2 first.toList (fun p hp => by simp [Op.operands]; exact .inl (by simpa using hp)), hmap2 cap.toList (fun p hp => by simp [Op.operands]; exact .inr (by simpa using hp))]
  | extract x i => simp only [opK, hev x (by simp [Op.operands])]
  | nilCheck x => simp only [opK, hev x (by simp [Op.operands])]
  | convert src dst x => simp only [opK, hev x (by simp [Op.operands])]
  | buildSlice t len parts => simp only [opK, hmap parts.toList (fun p hp => by simp [Op.operands]; exact ⟨p.1, by simpa using hp⟩)]
  | call c =>
    obtain ⟨callee, args, argTypes⟩ := c
    cases callee with
    | invoke rv m => cases hs
    | builtin b =>
      have hl := hmap2 args.toList (fun p hp => by simp [Op.operands, Call.operands]; simpa using hp)
      cases b <;> try cases hs
      · simp only [opK]
        generalize hal : args.toList = l1 at hl
        generalize argTypes.toList = l2
        match l1, l2 with
        | [x], [t] =>
          have : ev s x = ev s' x := by simpa using hl
          simp only [this]
        | [], _ => rfl
        | [_], [] => rfl
        | [_], _ :: _ :: _ => rfl
        | _ :: _ :: _, _ => rfl
      · simp only [opK, hl]
      · simp only [opK, hl]
    | value f =>
      have hl := hmap2 args.toList (fun p hp => by simp [Op.operands, Call.operands]; exact .inr (by simpa using hp))
      simp only [opK, hl, hev f (by simp [Op.operands, Call.operands])]
  | _ => cases hs

theorem blind_still {h : OA} {o : Op} (hb : h.blind o = true) : h.still o = true := by
  simp only [OA.blind, OA.still, Bool.and_eq_true] at hb ⊢
  refine ⟨hb.1, ?_⟩
  have := hb.2
  cases o <;> try (first | rfl | exact this | (cases this; done))
  rename_i c
  obtain ⟨callee, args, argTypes⟩ := c
  cases callee <;> try (cases this; done)
  rename_i b
  cases b <;> first | rfl | (cases this; done)

/-- What does not look at the objects is the same at others. -/
theorem opK_blind {h : OA} {o : Op} (hb : h.blind0 o = true) {s : List AV} {ob ob2 : List AO} {v : AV} (e : opK TT h o s ob pairK = some (v, ob)) : opK TT h o s ob2 pairK = some (v, ob2) := by
  have X : ∀ (X : (ρ : Type) → (AV → Option ρ) → Option ρ), (∀ ρ k, X ρ k = (X AV some).bind k) → X (AV × List AO) (fun v => pairK v ob) = some (v, ob) → X (AV × List AO) (fun v => pairK v ob2) = some (v, ob2) := by
    intro X hX h
    rw [hX] at h ⊢
    simp only [Option.bind_eq_some_iff, pairK, Option.some.injEq, Prod.mk.injEq, and_true] at h ⊢
    obtain ⟨a, h1, rfl⟩ := h
    exact ⟨a, h1, rfl⟩
  cases o with
  | move x => simp only [opK, pairK, Option.some.injEq, Prod.mk.injEq, and_true] at e ⊢; exact e
  | assign x => simp only [opK, pairK, Option.some.injEq, Prod.mk.injEq, and_true] at e ⊢; exact e
  | pick c a b =>
    simp only [opK] at e ⊢
    generalize ev s c = q at e
    cases q <;> try cases e
    rename_i t
    cases t
    · exact X (fun _ k => k (ev s b)) (fun _ k => rfl) e
    · exact X (fun _ k => k (ev s a)) (fun _ k => rfl) e
  | binOp op t x y u =>
    have hbb : ∀ (e : binK TT t op (ev s x) (ev s y) (fun v => pairK v ob) = some (v, ob)), (binK TT t op (ev s x) (ev s y) fun v => pairK v ob2) = some (v, ob2) := fun e =>
      X (fun _ k => binK TT t op (ev s x) (ev s y) k) (fun _ k => binK_nat k) e
    cases h <;> try (cases hb; done)
    all_goals first
      | exact hbb e
      | exact X (fun _ k => nilPK TT t op (ev s x) (ev s y) k) (fun _ k => nilPK_nat k) e
      | (rename_i t'
         have hq : ∀ {ρ : Type} (ob : List AO) (k : AV → List AO → Option ρ), opK TT (.eqs t') (.binOp op t x y u) s ob k = (match t' == t with | true => eqsK TT t op (ev s x) (ev s y) fun v => k v ob | false => none) := fun _ _ => rfl
         rw [hq] at e ⊢
         cases ht : t' == t <;> rw [ht] at e
         · cases e
         · exact X (fun _ k => eqsK TT t op (ev s x) (ev s y) k) (fun _ k => eqsK_nat k) e)
  | slice t x lo hi mx =>
    cases h <;> try (cases hb; done)
    exact X (fun _ k => sliceK TT t (ev s x).fg (lo.map (ev s)) (hi.map (ev s)) (mx.map (ev s)) [] k) (fun _ k => sliceK_nat k) e
  | buildSlice t len parts =>
    cases h <;> try (cases hb; done)
    simp only [opK, buildSliceK] at e ⊢
    split at e
    · split at e
      · rename_i hc
        rw [if_pos hc]
        simp only [Option.bind_eq_some_iff, pairK, Option.some.injEq, Prod.mk.injEq, and_true] at e ⊢
        exact e
      · cases e
    · cases e
  | makeFunc fn first cap => simp only [opK, pairK, Option.some.injEq, Prod.mk.injEq, and_true] at e ⊢; exact e
  | unOp op t x => exact X (fun _ k => unK op (ev s x) k) (fun _ k => unK_nat k) e
  | fieldAddr t p f => exact X (fun _ k => fieldAddrK TT t (ev s p) f k) (fun _ k => fieldAddrK_nat k) e
  | field t x f => exact X (fun _ k => fieldK TT t (ev s x) f k) (fun _ k => fieldK_nat k) e
  | build t parts => exact X (fun _ k => buildK TT t (parts.toList.map fun (p : Nat × Operand) => (p.1, ev s p.2)) k) (fun _ k => buildK_nat k) e
  | extract x i =>
    simp only [opK] at e ⊢
    generalize ev s x = q at e
    cases q <;> try (cases e; done)
    simp only at e ⊢
    split at e
    · rename_i hi
      simp only [pairK, Option.some.injEq, Prod.mk.injEq, and_true] at e ⊢
      rw [if_pos hi, e]
    · cases e
  | nilCheck x =>
    simp only [opK] at e ⊢
    generalize ev s x = q at e
    cases q <;> first | (cases e; done) | (simp only [pairK, Option.some.injEq, Prod.mk.injEq, and_true] at e ⊢; exact e)
  | call c =>
    obtain ⟨callee, args, argTypes⟩ := c
    cases callee <;> try (cases hb; done)
    rename_i b
    cases b <;> try (cases hb; done)
    · exact X (fun _ k => mxK true (args.toList.map (ev s)) k) (fun _ k => mxK_nat k) e
    · exact X (fun _ k => mxK false (args.toList.map (ev s)) k) (fun _ k => mxK_nat k) e
  | _ => cases hb

theorem storeK_use {ρ : Type} {r : ρ} {t : Nat} {p v : AV} {ob : List AO} {k : List AO → Option ρ} (e : storeK TT t p v ob k = some r) :
    ∃ ob', storeK TT t p v ob some = some ob' ∧ ob'.length = ob.length ∧ k ob' = some r := by
  unfold storeK at e ⊢
  cases p <;> try (cases e; done)
  rename_i j i sub
  simp only at e ⊢
  split at e
  case isFalse => cases e
  rename_i hc
  rw [if_pos hc]
  generalize ob.getD j .dead = o at e ⊢
  cases o <;> try (cases e; done)
  · simp only at e ⊢
    split at e
    case isFalse => cases e
    rename_i h1
    rw [if_pos h1]
    simp only [Option.bind_eq_some_iff] at e ⊢
    obtain ⟨y, h2, h3⟩ := e
    exact ⟨_, ⟨y, h2, rfl⟩, by simp, h3⟩
  · simp only at e ⊢
    split at e
    case isFalse => cases e
    rename_i h1
    rw [if_pos h1]
    exact ⟨_, rfl, by simp, e⟩

theorem opK_wr {ρ : Type} {r : ρ} {h : OA} {t : Nat} {p v : Operand} {s : List AV} {ob : List AO} {k : AV → List AO → Option ρ} (e : opK TT h (.store t p v) s ob k = some r) :
    ∃ x ob', opK TT h (.store t p v) s ob pairK = some (x, ob') ∧ ob.length ≤ ob'.length ∧ k x ob' = some r := by
  simp only [opK] at e ⊢
  obtain ⟨ob', h1, h2, h3⟩ := storeK_use e
  refine ⟨.undef, ob', ?_, Nat.le_of_eq h2.symm, h3⟩
  have : storeK TT t (ev s p) (ev s v) ob (fun ob' => pairK .undef ob') = (storeK TT t (ev s p) (ev s v) ob some).bind fun ob' => pairK .undef ob' := by
    unfold storeK
    cases ev s p <;> try rfl
    rename_i j i sub
    simp only
    split
    · generalize ob.getD j .dead = o
      cases o <;> try rfl
      · simp only
        split
        · simp only [Option.bind_assoc]; rfl
        · rfl
      · simp only
        split <;> rfl
    · rfl
  rw [this, h1]; rfl

theorem killOf_len (x : AV) (ob : List AO) : (killOf x ob).length = ob.length := by
  unfold killOf
  split <;> simp

theorem opK_wrA {ρ : Type} {r : ρ} {T : Ty} {args : Array Operand} {ts : Array Nat} {s : List AV} {ob : List AO} {k : AV → List AO → Option ρ} (e : opK TT (.obj T) (.call { callee := .builtin .append, args := args, argTypes := ts }) s ob k = some r) :
    ∃ x ob', opK TT (.obj T) (.call { callee := .builtin .append, args := args, argTypes := ts }) s ob pairK = some (x, ob') ∧ ob.length ≤ ob'.length ∧ k x ob' = some r := by
  simp only [opK] at e ⊢
  generalize args.toList = l1 at e ⊢
  generalize ts.toList = l2 at e ⊢
  match l1, l2 with
  | [x, y], [t, u] =>
    simp only at e ⊢
    unfold appendK at e ⊢
    generalize (TT t).kind = q at e ⊢
    cases q <;> try (cases e; done)
    rename_i el
    simp only at e ⊢
    split at e
    case isFalse => cases e
    rename_i hc
    rw [if_pos hc]
    generalize listOf T (ev s x) ob = a at e ⊢
    generalize listOf T (ev s y).fg ob = b at e ⊢
    cases a <;> cases b <;> try (cases e; done)
    simp only at e ⊢
    split at e
    case isFalse => cases e
    rename_i hr
    rw [if_pos hr]
    exact ⟨_, _, rfl, by simp [killOf_len], e⟩
  | [], _ => cases e
  | [_], _ => cases e
  | [_, _], [] => cases e
  | [_, _], [_] => cases e
  | [_, _], _ :: _ :: _ :: _ => cases e
  | _ :: _ :: _ :: _, _ => cases e

theorem opK_wrC {ρ : Type} {r : ρ} {T : Ty} {args : Array Operand} {ts : Array Nat} {s : List AV} {ob : List AO} {k : AV → List AO → Option ρ} (e : opK TT (.obj T) (.call { callee := .builtin .copy, args := args, argTypes := ts }) s ob k = some r) :
    ∃ x ob', opK TT (.obj T) (.call { callee := .builtin .copy, args := args, argTypes := ts }) s ob pairK = some (x, ob') ∧ ob.length ≤ ob'.length ∧ k x ob' = some r := by
  simp only [opK] at e ⊢
  generalize args.toList = l1 at e ⊢
  generalize ts.toList = l2 at e ⊢
  match l1, l2 with
  | [x, y], [t, u] =>
    simp only at e ⊢
    unfold copyK at e ⊢
    generalize (TT t).kind = q at e ⊢
    cases q <;> try (cases e; done)
    rename_i el
    simp only at e ⊢
    split at e
    case isFalse => cases e
    rename_i hc
    rw [if_pos hc]
    generalize listOf T (ev s y).fg ob = b at e ⊢
    generalize ev s x = a at e ⊢
    cases a <;> try (cases e; done)
    · rename_i j
      simp only at e ⊢
      generalize listOf T (.slw j) ob = c at e ⊢
      cases c <;> cases b <;> try (cases e; done)
      exact ⟨_, _, rfl, by simp, e⟩
    · rename_i j off len
      simp only at e ⊢
      generalize listOf T (.slw j) ob = c at e ⊢
      cases c <;> cases b <;> try (cases e; done)
      exact ⟨_, _, rfl, by simp, e⟩
  | [], _ => cases e
  | [_], _ => cases e
  | [_, _], [] => cases e
  | [_, _], [_] => cases e
  | [_, _], _ :: _ :: _ :: _ => cases e
  | _ :: _ :: _ :: _, _ => cases e

theorem opK_wrF {ρ : Type} {r : ρ} {l : List Callee'} {f : Operand} {args : Array Operand} {ts : Array Nat} {s : List AV} {ob : List AO} {k : AV → List AO → Option ρ} (e : opK TT (.call l) (.call { callee := .value f, args := args, argTypes := ts }) s ob k = some r) :
    ∃ x ob', opK TT (.call l) (.call { callee := .value f, args := args, argTypes := ts }) s ob pairK = some (x, ob') ∧ ob.length ≤ ob'.length ∧ k x ob' = some r := by
  simp only [opK] at e ⊢
  generalize ev s f = q at e ⊢
  cases q <;> try (cases e; done)
  rename_i fn first cap
  cases fn <;> try (cases e; done)
  simp only at e ⊢
  unfold callK at e ⊢
  generalize pickC l _ _ ob = p at e ⊢
  cases p with
  | none => cases e
  | some c =>
    simp only at e ⊢
    rw [c.nat.nat] at e
    simp only [Option.bind_eq_some_iff] at e
    obtain ⟨x, h1, h2⟩ := e
    refine ⟨_, _, ?_, c.nat.len _ _ _ h1, h2⟩
    rw [c.nat.nat, h1]
    rfl

theorem opK_wrL {ρ : Type} {r : ρ} {h : OA} {t : Nat} {s : List AV} {ob : List AO} {k : AV → List AO → Option ρ} (e : opK TT h (.alloc t) s ob k = some r) :
    ∃ x ob', opK TT h (.alloc t) s ob pairK = some (x, ob') ∧ ob.length ≤ ob'.length ∧ k x ob' = some r := by
  simp only [opK] at e ⊢
  split at e
  · rename_i hc
    rw [if_pos hc]
    exact ⟨_, _, rfl, by simp, e⟩
  · cases e

/-! ### The run in the order of the text -/

/-- An operation with its guard. -/
noncomputable def opG (TT : Nat → TI) (all : List Oper) (h : OA) (o : Oper) (s : List AV) (ob : List AO) : Option (AV × List AO) :=
  match o.guard with
  | none => opK TT h o.op s ob pairK
  | some (g, want) =>
    match (all[g]?).bind (·.dst) with
    | none => none
    | some d =>
      match s.getD d .dead with
      | .bool b => if b = want then opK TT h o.op s ob pairK else some (.undef, ob)
      | .undef => some (.undef, ob)
      | _ => none

theorem opG_congr {all : List Oper} {h : OA} {o : Oper} (hs0 : h.still o.op = true ∨ h.wr o = true) {s s' : List AV} {ob : List AO} (hc : ∀ t, t ∈ gTmps all o → s.getD t .dead = s'.getD t .dead) :
    opG TT all h o s ob = opG TT all h o s' ob := by
  have opK_congr : ∀ (_ : True), (∀ t, t ∈ opTmps o.op → s.getD t .dead = s'.getD t .dead) → opK TT h o.op s ob pairK = opK TT h o.op s' ob pairK := by
    intro _ hc
    rcases hs0 with hs0 | hs0
    · simp only [OA.still, Bool.and_eq_true] at hs0
      exact opK_congr hs0.2 hc
    · simp only [OA.wr, Bool.and_eq_true] at hs0
      have h2 := hs0.2
      generalize o.op = q at h2 hc
      cases q <;> try (cases h2; done)
      · simp only [opK]
      · rename_i t p v
        have hev : ∀ x ∈ (Op.store t p v).operands.toList, ev s x = ev s' x := fun x hx => ev_congr fun t ht => hc t (mem_opTmps.2 (ht ▸ hx))
        simp only [opK, hev p (by simp [Op.operands]), hev v (by simp [Op.operands])]
      · rename_i c
        obtain ⟨callee, args, argTypes⟩ := c
        cases callee <;> try (cases h2; done)
        · rename_i f
          have hev : ∀ x ∈ args.toList, ev s x = ev s' x := fun x hx => ev_congr fun t ht => hc t (mem_opTmps.2 (ht ▸ by simp [Op.operands, Call.operands]; exact .inr (by simpa using hx)))
          have hf : ev s f = ev s' f := ev_congr fun t ht => hc t (mem_opTmps.2 (ht ▸ by simp [Op.operands, Call.operands]))
          simp only [opK, List.map_congr_left hev, hf]
        · rename_i b
          cases b <;> try (cases h2; done)
          all_goals
            have hev : ∀ x ∈ args.toList, ev s x = ev s' x := fun x hx => ev_congr fun t ht => hc t (mem_opTmps.2 (ht ▸ by simp [Op.operands, Call.operands]; simpa using hx))
            simp only [opK]
            generalize args.toList = l1 at hev
            generalize argTypes.toList = l2
            match l1, l2 with
            | [x, y], [t, u] => simp only [hev x (by simp), hev y (by simp)]
            | [], _ => rfl
            | [_], _ => rfl
            | [_, _], [] => rfl
            | [_, _], [_] => rfl
            | [_, _], _ :: _ :: _ :: _ => rfl
            | _ :: _ :: _ :: _, _ => rfl
  have hs := trivial
  unfold opG
  unfold gTmps at hc
  cases hg : o.guard with
  | none => rw [hg] at hc; exact opK_congr hs hc
  | some gw =>
    obtain ⟨g, want⟩ := gw
    rw [hg] at hc
    simp only at hc ⊢
    cases hd : (all[g]?).bind (·.dst) with
    | none => rfl
    | some d =>
      rw [hd] at hc
      simp only at hc ⊢
      rw [hc d List.mem_cons_self]
      cases hv : s'.getD d .dead <;> try rfl
      simp only
      split
      · exact opK_congr hs fun t ht => hc t (List.mem_cons_of_mem _ ht)
      · rfl

theorem opG_blind {all : List Oper} {h : OA} {o : Oper} (hb : h.blind o.op = true) {s : List AV} {ob ob2 : List AO} {v : AV} (e : opG TT all h o s ob = some (v, ob)) : opG TT all h o s ob2 = some (v, ob2) := by
  simp only [OA.blind, Bool.and_eq_true] at hb
  have hb := hb.2
  unfold opG at e ⊢
  cases hg : o.guard with
  | none => rw [hg] at e; exact opK_blind hb e
  | some gw =>
    obtain ⟨g, want⟩ := gw
    rw [hg] at e
    simp only at e ⊢
    cases hd : (all[g]?).bind (·.dst) with
    | none => rw [hd] at e; cases e
    | some d =>
      rw [hd] at e
      simp only at e ⊢
      cases hv : s.getD d .dead <;> rw [hv] at e <;> try (cases e; done)
      · simp only at e ⊢
        split at e
        · rename_i hc
          rw [if_pos hc]; exact opK_blind hb e
        · rename_i hc
          rw [if_neg hc]
          simp only [Option.some.injEq, Prod.mk.injEq, and_true] at e ⊢
          exact e
      · simp only [Option.some.injEq, Prod.mk.injEq, and_true] at e ⊢
        exact e

theorem set_getD {s : List AV} {d : Nat} {b : Bool} (h : s.getD d .dead = .bool b) : s.set d (.bool b) = s := by
  by_cases hd : d < s.length
  · have : s[d] = .bool b := by simpa [List.getD, hd] using h
    rw [← this]; exact List.set_getElem_self hd
  · rw [List.set_eq_of_length_le (Nat.le_of_not_lt hd)]

def putL (s : List AV) (d : Option Nat) (v : AV) : List AV :=
  match d with
  | some d => s.set d v
  | none => s

inductive Run (all : List Oper) : List Oper → List OA → List AV → List AO → List (AV × List AO) → List AV → List AO → Prop
  | nil (hs : List OA) (s : List AV) (ob : List AO) : Run all [] hs s ob [] s ob
  | cons (o : Oper) (os : List Oper) (hs : List OA) (s : List AV) (ob : List AO) (v : AV) (ob' : List AO) (vs : List (AV × List AO)) (s' : List AV) (obF : List AO) (h : opG TT all (hs.headD .std) o s ob = some (v, ob'))
      (hl : ob.length ≤ ob'.length) (hst : (hs.headD .std).still o.op = true → ob' = ob) (t : Run all os hs.tail (putL s o.dst v) ob' vs s' obF) :
      Run all (o :: os) hs s ob ((v, ob) :: vs) s' obF

/-- The objects ahead of operation i. -/
def obAt (vs : List (AV × List AO)) (obF : List AO) (i : Nat) : List AO :=
  match vs[i]? with
  | some x => x.2
  | none => obF

/-- The slots ahead of operation i. -/
def slAt : List Oper → List (AV × List AO) → List AV → Nat → List AV
  | o :: os, v :: vs, s, i + 1 => slAt os vs (putL s o.dst v.1) i
  | _, _, s, _ => s

theorem slAt_zero (os : List Oper) (vs : List (AV × List AO)) (s : List AV) : slAt os vs s 0 = s := by cases os <;> cases vs <;> rfl

theorem run_start {all : List Oper} {os : List Oper} {hs : List OA} {s s' : List AV} {ob obF : List AO} {vs : List (AV × List AO)} (h : Run (TT := TT) all os hs s ob vs s' obF) : obAt vs obF 0 = ob := by
  cases h <;> rfl

theorem run_vlen {all : List Oper} {os : List Oper} {hs : List OA} {s s' : List AV} {ob obF : List AO} {vs : List (AV × List AO)} (h : Run (TT := TT) all os hs s ob vs s' obF) : vs.length = os.length := by
  induction h with
  | nil => rfl
  | cons o os hs s ob v ob' vs s' obF h hl hst t ih => simp [ih]

theorem run_end {all : List Oper} {os : List Oper} {hs : List OA} {s s' : List AV} {ob obF : List AO} {vs : List (AV × List AO)} (h : Run (TT := TT) all os hs s ob vs s' obF) : obAt vs obF os.length = obF := by
  unfold obAt
  rw [List.getElem?_eq_none (by rw [run_vlen h]; exact Nat.le_refl _)]

theorem run_keep {all : List Oper} {os : List Oper} {hs : List OA} {s s' : List AV} {ob obF : List AO} {vs : List (AV × List AO)} (h : Run (TT := TT) all os hs s ob vs s' obF) {t : Nat} (ht : ∀ p ∈ os, p.dst ≠ some t) : s'.getD t .dead = s.getD t .dead := by
  induction h with
  | nil => rfl
  | cons o os hs s ob v ob' vs s' obF h hl hst _ ih =>
    rw [ih fun p hp => ht p (List.mem_cons_of_mem _ hp)]
    have := ht o List.mem_cons_self
    cases hd : o.dst with
    | none => rfl
    | some d =>
      have hne : d ≠ t := fun e => this (by rw [hd, e])
      simp [putL, List.getD, hne]

theorem run_len {all : List Oper} {os : List Oper} {hs : List OA} {s s' : List AV} {ob obF : List AO} {vs : List (AV × List AO)} (h : Run (TT := TT) all os hs s ob vs s' obF) : s'.length = s.length := by
  induction h with
  | nil => rfl
  | cons o os hs s ob v ob' vs s' obF h hl hst _ ih =>
    rw [ih]
    cases o.dst <;> simp [putL]

theorem run_slA {all : List Oper} {os : List Oper} {hs : List OA} {s s' : List AV} {ob obF : List AO} {vs : List (AV × List AO)} (h : Run (TT := TT) all os hs s ob vs s' obF) : ∀ (i t : Nat), (∀ q p, os[q]? = some p → q < i → p.dst ≠ some t) → (slAt os vs s i).getD t .dead = s.getD t .dead := by
  induction h with
  | nil => intro i t _; cases i <;> rfl
  | cons o os hs s ob v ob' vs s' obF h hl hst _ ih =>
    intro i t ht
    cases i with
    | zero => rfl
    | succ i =>
      simp only [slAt]
      rw [ih i t fun q p hq hlt => ht (q + 1) p (by simpa using hq) (by omega)]
      have := ht 0 o rfl (by omega)
      cases hd : o.dst with
      | none => rfl
      | some d =>
        have hne : d ≠ t := fun e => this (by rw [hd, e])
        simp [putL, List.getD, hne]

theorem run_slB {all : List Oper} {os : List Oper} {hs : List OA} {s s' : List AV} {ob obF : List AO} {vs : List (AV × List AO)} (h : Run (TT := TT) all os hs s ob vs s' obF) : ∀ (i t : Nat), (∀ q p, os[q]? = some p → i ≤ q → p.dst ≠ some t) → (slAt os vs s i).getD t .dead = s'.getD t .dead := by
  induction h with
  | nil => intro i t _; cases i <;> rfl
  | cons o os hs s ob v ob' vs s' obF h hl hst tl ih =>
    intro i t ht
    cases i with
    | zero =>
      exact (run_keep (.cons o os hs s ob v ob' vs s' obF h hl hst tl) fun p hp => by
        obtain ⟨q, hq, rfl⟩ := List.getElem_of_mem hp
        exact ht q _ (List.getElem?_eq_getElem hq) (Nat.zero_le _)).symm
    | succ i =>
      simp only [slAt]
      exact ih i t fun q p hq hle => ht (q + 1) p (by simpa using hq) (by omega)

theorem run_sllen {all : List Oper} {os : List Oper} {hs : List OA} {s s' : List AV} {ob obF : List AO} {vs : List (AV × List AO)} (h : Run (TT := TT) all os hs s ob vs s' obF) : ∀ i, (slAt os vs s i).length = s.length := by
  induction h with
  | nil => intro i; cases i <;> rfl
  | cons o os hs s ob v ob' vs s' obF h hl hst _ ih =>
    intro i
    cases i with
    | zero => rfl
    | succ i =>
      simp only [slAt]
      rw [ih i]
      cases o.dst <;> simp [putL]

theorem run_oblen {all : List Oper} {os : List Oper} {hs : List OA} {s s' : List AV} {ob obF : List AO} {vs : List (AV × List AO)} (h : Run (TT := TT) all os hs s ob vs s' obF) : ∀ i j, i ≤ j → (obAt vs obF i).length ≤ (obAt vs obF j).length := by
  induction h with
  | nil => intro i j _; simp [obAt]
  | cons o os hs s ob v ob' vs s' obF h hl hst t ih =>
    intro i j hij
    cases j with
    | zero =>
      have : i = 0 := by omega
      subst this
      exact Nat.le_refl _
    | succ j =>
      cases i with
      | zero =>
        have h0 := ih 0 j (by omega)
        rw [run_start t] at h0
        exact Nat.le_trans hl h0
      | succ i => exact ih i j (by omega)

theorem drwOps_w {all : List Oper} : ∀ (l : List Oper) (j : Nat) (w : List (Nat × Nat)), drwOps all l j w = true → ∀ p ∈ l, ∀ x ∈ w, p.dst ≠ some x.1
  | [], _, _, _, p, hp, _, _ => by cases hp
  | o :: r, j, w, h, p, hp, x, hx => by
    simp only [drwOps, Bool.and_eq_true] at h
    obtain ⟨⟨⟨⟨_, _⟩, _⟩, h5⟩, h6⟩ := h
    rcases List.mem_cons.1 hp with rfl | hp
    · intro e
      rw [e] at h5
      have := List.all_eq_true.1 h5 x hx
      simp at this
    · refine drwOps_w r (j + 1) _ h6 p hp x ?_
      split
      · exact List.mem_cons_of_mem _ hx
      · exact hx

/-- What holds of the run, operation by operation: hints hs, operations l from place j on. -/
theorem run_facts {all : List Oper} {os : List Oper} {hs : List OA} {s s' : List AV} {ob obF : List AO} {vs : List (AV × List AO)} (h : Run (TT := TT) all os hs s ob vs s' obF) : ∀ (j : Nat) (w : List (Nat × Nat)), drwOps all os j w = true →
    ∀ i o, os[i]? = some o → opG TT all (hs.getD i .std) o (slAt os vs s i) (obAt vs obF i) = some ((vs.getD i (.dead, [])).1, obAt vs obF (i + 1)) ∧ (∀ d, o.dst = some d → d < s.length → s'.getD d .dead = (vs.getD i (.dead, [])).1) ∧
      ((hs.getD i .std).still o.op = true → obAt vs obF (i + 1) = obAt vs obF i) := by
  induction h with
  | nil => intro j w _ i o hi; simp at hi
  | cons o os hs s ob v ob' vs s' obF h hl hsti ht ih =>
    intro j w hd i p hi
    have hd' := hd
    simp only [drwOps, Bool.and_eq_true] at hd
    obtain ⟨⟨⟨⟨_, _⟩, h4⟩, h5⟩, h6⟩ := hd
    have e0 : ∀ i, obAt ((v, ob) :: vs) obF (i + 1) = obAt vs obF i := fun i => by simp [obAt]
    cases i with
    | zero =>
      simp only [List.getElem?_cons_zero, Option.some.injEq] at hi
      subst hi
      have hh : hs.getD 0 .std = hs.headD .std := by cases hs <;> rfl
      have e1 : obAt ((v, ob) :: vs) obF 0 = ob := rfl
      rw [hh, List.getD_cons_zero, e0, run_start ht, e1]
      refine ⟨h, fun d hdd hlt => ?_, fun hq => hsti hq⟩
      have hno : ∀ p ∈ os, p.dst ≠ some d := fun p hp => by
        rw [hdd] at h6
        exact drwOps_w os (j + 1) ((d, j) :: w) h6 p hp (d, j) List.mem_cons_self
      rw [run_keep ht hno, hdd]
      simp [putL, List.getD, hlt]
    | succ i =>
      simp only [List.getElem?_cons_succ] at hi
      have hh : ∀ i, hs.getD (i + 1) .std = hs.tail.getD i .std := fun i => by cases hs <;> simp [List.getD]
      obtain ⟨e1, e2, e3⟩ := ih (j + 1) _ h6 i p hi
      rw [hh, List.getD_cons_succ, e0, e0]
      refine ⟨e1, fun d hdd hlt => e2 d hdd ?_, e3⟩
      cases o.dst <;> simpa [putL] using hlt

/-- Between writes the objects stay. -/
theorem obAt_eq {vs : List (AV × List AO)} {obF : List AO} {a b : Nat} (hab : a ≤ b) (h : ∀ j, a ≤ j → j < b → obAt vs obF (j + 1) = obAt vs obF j) : obAt vs obF a = obAt vs obF b := by
  induction hab with
  | refl => rfl
  | step hab ih =>
    rename_i m
    rw [ih fun j h1 h2 => h j h1 (by omega), h m hab (by omega)]

theorem drwOps_static {all : List Oper} : ∀ (l : List Oper) (j : Nat) (w : List (Nat × Nat)), drwOps all l j w = true → ∀ i o, l[i]? = some o →
    (∀ e ∈ o.after.toList, Region.binds .any e = true → e.on < j + i) ∧
    (∀ t ∈ gTmps all o, (∀ x ∈ w, x.1 = t → bindsTo o x.2 = true) ∧ ∀ (q : Nat) (p : Oper), l[q]? = some p → p.dst = some t → (q < i → bindsTo o (j + q) = true) ∧ (i < q → near all 5 (j + q) (j + i) = true)) ∧
    (∀ (q : Nat) (p : Oper) (d : Nat), l[q]? = some p → o.dst = some d → p.dst = some d → q = i)
  | [], _, _, _, i, o, hi => by simp at hi
  | o0 :: r, j, w, h, i, o, hi => by
    have hw := drwOps_w _ _ _ h
    simp only [drwOps, Bool.and_eq_true] at h
    obtain ⟨⟨⟨⟨h2, h3⟩, h4⟩, h5⟩, h6⟩ := h
    have hrest : ∀ (q : Nat) (p : Oper) (d : Nat), r[q]? = some p → o0.dst = some d → p.dst ≠ some d := fun q p d hq hd => by
      rw [hd] at h6
      exact drwOps_w r (j + 1) ((d, j) :: w) h6 p (List.mem_of_getElem? hq) (d, j) List.mem_cons_self
    cases i with
    | zero =>
      simp only [List.getElem?_cons_zero, Option.some.injEq] at hi
      subst hi
      refine ⟨fun e he hb => ?_, fun t ht => ⟨fun x hx hxt => ?_, fun q p hq hp => ⟨fun hlt => by omega, fun hlt => ?_⟩⟩, fun q p d hq hd hp => ?_⟩
      · have := List.all_eq_true.1 h2 e he
        simp [hb] at this
        omega
      · have := List.all_eq_true.1 (List.all_eq_true.1 h3 t ht) x hx
        simpa [hxt] using this
      · cases q with
        | zero => omega
        | succ q =>
          have hq2 : r[q]? = some p := by simpa using hq
          have hm : (p, q) ∈ r.zipIdx := by
            rw [List.mem_zipIdx_iff_getElem?]
            exact hq2
          have := List.all_eq_true.1 (List.all_eq_true.1 h4 t ht) (p, q) hm
          simp only [hp, bne_self_eq_false, Bool.false_or] at this
          rw [show j + (q + 1) = j + 1 + q by omega]
          exact this
      · cases q with
        | zero => rfl
        | succ q => exact absurd hp (hrest q p d (by simpa using hq) hd)
    | succ i =>
      simp only [List.getElem?_cons_succ] at hi
      obtain ⟨e2, e3, e4⟩ := drwOps_static r (j + 1) _ h6 i o hi
      refine ⟨fun e he hb => by have := e2 e he hb; omega, fun t ht => ⟨fun x hx hxt => (e3 t ht).1 x ?_ hxt, fun q p hq hp => ?_⟩, fun q p d hq hd hp => ?_⟩
      · split
        · exact List.mem_cons_of_mem _ hx
        · exact hx
      · cases q with
        | zero =>
          simp only [List.getElem?_cons_zero, Option.some.injEq] at hq
          subst hq
          have := (e3 t ht).1 (t, j) (by rw [hp]; exact List.mem_cons_self) rfl
          exact ⟨fun _ => by simpa using this, fun h => by omega⟩
        | succ q =>
          have := (e3 t ht).2 q p (by simpa using hq) hp
          rw [show j + (q + 1) = j + 1 + q by omega, show j + (i + 1) = j + 1 + i by omega]
          exact ⟨fun h => this.1 (by omega), fun h => this.2 (by omega)⟩
      · cases q with
        | zero =>
          simp only [List.getElem?_cons_zero, Option.some.injEq] at hq
          subst hq
          exact absurd hd (hrest i o d hi hp)
        | succ q =>
          have := e4 q p d (by simpa using hq) hd hp
          omega

theorem putL_put {s : List AV} {ob : List AO} {d : Option Nat} {v : AV} : (({ sl := s, ob := ob } : St).put d v) = ⟨putL s d v, ob⟩ := by cases d <;> rfl

theorem opsK_step {ρ : Type} {r : ρ} {all : List Oper} {k : St → Option ρ} {o : Oper} {os : List Oper} {hs : List OA} {s : List AV} {ob : List AO} (hn : (hs.headD .std).nat) (hst : (hs.headD .std).still o.op = true)
    (e : opsK TT all (o :: os) hs ⟨s, ob⟩ k = some r) : ∃ v, opG TT all (hs.headD .std) o s ob = some (v, ob) ∧ opsK TT all os hs.tail ⟨putL s o.dst v, ob⟩ k = some r := by
  simp only [OA.still, Bool.and_eq_true] at hst
  obtain ⟨hpl, hst⟩ := hst
  simp only [opsK, (plain_bare hpl).1, (plain_bare hpl).2, plain_nns hpl, nnV_nil, St.frzAll] at e
  unfold opG
  cases hg : o.guard with
  | none =>
    rw [hg] at e
    obtain ⟨v, h1, h2⟩ := opK_still hn hst e
    rw [putL_put] at h2
    exact ⟨v, h1, h2⟩
  | some gw =>
    obtain ⟨g, want⟩ := gw
    rw [hg] at e
    simp only at e ⊢
    cases hd : (all[g]?).bind (·.dst) with
    | none => rw [hd] at e; cases e
    | some d =>
      rw [hd] at e
      simp only at e ⊢
      cases hv : s.getD d .dead <;> rw [hv] at e <;> first | cases e; done | skip
      · rename_i b
        simp only at e ⊢
        split at e
        · rename_i hb
          subst hb
          rw [if_pos rfl]
          rw [set_getD hv] at e
          obtain ⟨v, h1, h2⟩ := opK_still hn hst e
          rw [putL_put] at h2
          exact ⟨v, h1, h2⟩
        · rename_i hb
          have hb2 : (!want) = b := by cases want <;> cases b <;> simp_all
          rw [if_neg hb]
          rw [hb2, set_getD hv, putL_put] at e
          exact ⟨_, rfl, e⟩
      · simp only at e ⊢
        rw [putL_put] at e
        exact ⟨_, rfl, e⟩

theorem opK_wrAny {ρ : Type} {r : ρ} {h : OA} {o : Op} (hop : (match o with | .store .. => true | .alloc _ => true | .call { callee := .builtin .append, .. } => (match h with | .obj _ => true | _ => false) | .call { callee := .builtin .copy, .. } => (match h with | .obj _ => true | _ => false) | .call { callee := .value _, .. } => (match h with | .call _ => true | _ => false) | _ => false) = true)
    {s : List AV} {ob : List AO} {k : AV → List AO → Option ρ} (e : opK TT h o s ob k = some r) : ∃ x ob', opK TT h o s ob pairK = some (x, ob') ∧ ob.length ≤ ob'.length ∧ k x ob' = some r := by
  cases o <;> try (cases hop; done)
  · exact opK_wrL e
  · exact opK_wr e
  · rename_i c
    obtain ⟨callee, args, argTypes⟩ := c
    cases callee <;> try (cases hop; done)
    · cases h <;> try (cases hop; done)
      exact opK_wrF e
    · rename_i b
      cases b <;> try (cases hop; done)
      all_goals cases h <;> try (cases hop; done)
      · exact opK_wrA e
      · exact opK_wrC e

theorem opsK_stepW {ρ : Type} {r : ρ} {all : List Oper} {k : St → Option ρ} {o : Oper} {os : List Oper} {hs : List OA} {s : List AV} {ob : List AO} (hst : (hs.headD .std).wr o = true)
    (e : opsK TT all (o :: os) hs ⟨s, ob⟩ k = some r) : ∃ v ob', opG TT all (hs.headD .std) o s ob = some (v, ob') ∧ ob.length ≤ ob'.length ∧ opsK TT all os hs.tail ⟨putL s o.dst v, ob'⟩ k = some r := by
  simp only [OA.wr, Bool.and_eq_true] at hst
  obtain ⟨⟨hpl, _⟩, hop⟩ := hst
  simp only [opsK, (plain_bare hpl).1, (plain_bare hpl).2, plain_nns hpl, nnV_nil, St.frzAll] at e
  unfold opG
  cases hg : o.guard with
  | none =>
    rw [hg] at e
    obtain ⟨v, ob', h1, h2, h3⟩ := opK_wrAny hop e
    rw [putL_put] at h3
    exact ⟨v, ob', h1, h2, h3⟩
  | some gw =>
    obtain ⟨g, want⟩ := gw
    rw [hg] at e
    simp only at e ⊢
    cases hd : (all[g]?).bind (·.dst) with
    | none => rw [hd] at e; cases e
    | some d =>
      rw [hd] at e
      simp only at e ⊢
      cases hv : s.getD d .dead <;> rw [hv] at e <;> first | cases e; done | skip
      · rename_i b
        simp only at e ⊢
        split at e
        · rename_i hb
          subst hb
          rw [if_pos rfl]
          rw [set_getD hv] at e
          obtain ⟨v, ob', h1, h2, h3⟩ := opK_wrAny hop e
          rw [putL_put] at h3
          exact ⟨v, ob', h1, h2, h3⟩
        · rename_i hb
          have hb2 : (!want) = b := by cases want <;> cases b <;> simp_all
          rw [if_neg hb]
          rw [hb2, set_getD hv, putL_put] at e
          exact ⟨_, _, rfl, Nat.le_refl _, e⟩
      · simp only at e ⊢
        rw [putL_put] at e
        exact ⟨_, _, rfl, Nat.le_refl _, e⟩

/-- The text's order gives a run, and what is left. -/
theorem opsK_run {ρ : Type} {r : ρ} {all : List Oper} {k : St → Option ρ} : ∀ (os1 os2 : List Oper) (hs : List OA) (st : St), (∀ h ∈ hs, h.nat) → (∀ i o, os1[i]? = some o → (hs.getD i .std).still o.op = true ∨ (hs.getD i .std).wr o = true) →
    opsK TT all (os1 ++ os2) hs st k = some r → ∃ vs s' obF, Run (TT := TT) all os1 hs st.sl st.ob vs s' obF ∧ opsK TT all os2 (hs.drop os1.length) ⟨s', obF⟩ k = some r
  | [], os2, hs, st, _, _, e => ⟨[], st.sl, st.ob, .nil hs st.sl st.ob, e⟩
  | o :: os1, os2, hs, st, hn, hst, e => by
    have hh : hs.getD 0 .std = hs.headD .std := by cases hs <;> rfl
    have h0 := hst 0 o rfl
    rw [hh] at h0
    have hnat : (hs.headD .std).nat := by
      cases hs with
      | nil => trivial
      | cons h hs => exact hn h List.mem_cons_self
    obtain ⟨v, ob', h1, hl, hq, h2⟩ : ∃ v ob', opG TT all (hs.headD .std) o st.sl st.ob = some (v, ob') ∧ st.ob.length ≤ ob'.length ∧ ((hs.headD .std).still o.op = true → ob' = st.ob) ∧ opsK TT all (os1 ++ os2) hs.tail ⟨putL st.sl o.dst v, ob'⟩ k = some r := by
      by_cases hc : (hs.headD .std).still o.op = true
      · obtain ⟨v, h1, h2⟩ := opsK_step (o := o) (os := os1 ++ os2) (s := st.sl) (ob := st.ob) hnat hc e
        exact ⟨v, st.ob, h1, Nat.le_refl _, fun _ => rfl, h2⟩
      · obtain ⟨v, ob', h1, h2, h3⟩ := opsK_stepW (o := o) (os := os1 ++ os2) (s := st.sl) (ob := st.ob) (h0.resolve_left hc) e
        exact ⟨v, ob', h1, h2, fun h => absurd h hc, h3⟩
    have hh2 : ∀ i, hs.getD (i + 1) .std = hs.tail.getD i .std := fun i => by cases hs <;> simp [List.getD]
    obtain ⟨vs, s', obF, h3, h4⟩ := opsK_run os1 os2 hs.tail _ (fun h hm => hn h (List.mem_of_mem_tail hm)) (fun i o hi => by rw [← hh2]; exact hst (i + 1) o (by simpa using hi)) h2
    refine ⟨(v, st.ob) :: vs, s', obF, .cons o os1 hs st.sl st.ob v ob' vs s' obF h1 hl hq h3, ?_⟩
    have e3 : hs.drop (os1.length + 1) = hs.tail.drop os1.length := by cases hs <;> simp
    simp only [List.length_cons, e3]
    exact h4

theorem drwKinds_spec {ops : List Oper} {hs : List OA} {n : Nat} (h : drwKinds ops hs n = true) {i : Nat} {o : Oper} (hi : ops[i]? = some o) (hn : i < n) : (hs.getD i .std).still o.op = true ∨ (hs.getD i .std).wr o = true := by
  have := List.all_eq_true.1 h i (List.mem_range.2 hn)
  rw [hi] at this
  simpa using this

theorem drwPairs_spec {ops : List Oper} {hs : List OA} {n : Nat} (h : drwPairs ops hs n = true) {w j : Nat} {o p : Oper} (hw : ops[w]? = some o) (hj : ops[j]? = some p) (hwn : w < n) (hjn : j < n) (hwr : (hs.getD w .std).wr o = true) (hne : j ≠ w)
    (hb : (hs.getD j .std).blind p.op = false) : (j < w → near ops 5 w j = true ∨ (opAdds o.op = true ∧ ((hs.getD j .std).wr p = true ∨ opMono p.op = true ∨ drwVia ops hs j w = true))) ∧ (w < j → near ops 5 j w = true ∨ opAdds p.op = true) := by
  have h1 := List.all_eq_true.1 h w (List.mem_range.2 hwn)
  rw [hw] at h1
  simp only [hwr, Bool.not_true, Bool.false_or] at h1
  have h2 := List.all_eq_true.1 h1 j (List.mem_range.2 hjn)
  rw [hj] at h2
  simp only [hb, Bool.false_or, Bool.or_eq_true, beq_iff_eq, hne, false_or] at h2
  refine ⟨fun hlt => ?_, fun hlt => ?_⟩
  · rw [if_pos hlt] at h2
    simpa only [Bool.or_eq_true, Bool.and_eq_true, or_assoc] using h2
  · rw [if_neg (by omega)] at h2; simpa only [Bool.or_eq_true] using h2

theorem drwLate_spec {ops : List Oper} {hs : List OA} {n : Nat} (h : drwLate ops hs n = true) {j i w : Nat} {o p q : Oper} (hj : ops[j]? = some o) (hi : ops[i]? = some p) (hw : ops[w]? = some q) (hjn : j < n) (hin : i < n) (hwj : w < j) (hji : j < i) (ha : opAdds o.op = true)
    (hr : (∃ t ∈ gTmps ops p, o.dst = some t) ∨ ((hs.getD i .std).blind p.op = false ∧ (hs.getD i .std).wr p = false)) (hwr : (hs.getD w .std).wr q = true) : near ops 5 j w = true ∨ near ops 5 i w = true := by
  have h1 := List.all_eq_true.1 h j (List.mem_range.2 hjn)
  rw [hj] at h1
  simp only [ha, Bool.not_true, Bool.false_or] at h1
  have h2 := List.all_eq_true.1 h1 i (List.mem_range.2 hin)
  rw [hi] at h2
  simp only [Bool.or_eq_true, decide_eq_true_eq] at h2
  rcases h2 with h2 | h2
  · omega
  rcases h2 with h2 | h2
  · exfalso
    simp only [Bool.and_eq_true, Bool.or_eq_true] at h2
    rcases hr with ⟨t, ht, ho⟩ | ⟨h3, h4⟩
    · have := List.all_eq_true.1 h2.1 t ht
      simp [ho] at this
    · rcases h2.2 with h5 | h5
      · rw [h5] at h3; cases h3
      · rw [h5] at h4; cases h4
  · have h3 := List.all_eq_true.1 h2 w (List.mem_range.2 hwj)
    rw [hw] at h3
    simpa only [hwr, Bool.not_true, Bool.false_or, Bool.or_eq_true] using h3

theorem drwVia_spec {ops : List Oper} {hs : List OA} {j w : Nat} (h : drwVia ops hs j w = true) : ∃ v o, j < v ∧ v < w ∧ ops[v]? = some o ∧ (hs.getD v .std).wr o = true ∧ opAdds o.op = false ∧ near ops 5 v j = true := by
  obtain ⟨v, hv, h2⟩ := List.any_eq_true.1 h
  simp only [Bool.and_eq_true, decide_eq_true_eq] at h2
  obtain ⟨h3, h4⟩ := h2
  cases ho : ops[v]? with
  | none => rw [ho] at h4; cases h4
  | some o =>
    rw [ho] at h4
    simp only [Bool.and_eq_true, Bool.not_eq_true'] at h4
    exact ⟨v, o, h3, List.mem_range.1 hv, ho, h4.1.1, h4.1.2, h4.2⟩

theorem wr_mono {h : OA} {o : Oper} (hw : h.wr o = true) : opMono o.op = false := by
  simp only [OA.wr, Bool.and_eq_true] at hw
  have h2 := hw.2
  generalize o.op = q at h2
  cases q <;> first | rfl | (cases h2; done)

theorem wr_blind {h : OA} {o : Oper} (hw : h.wr o = true) : h.blind o.op = false := by
  simp only [OA.wr, Bool.and_eq_true] at hw
  have h2 := hw.2
  cases hb : h.blind o.op with
  | false => rfl
  | true =>
    simp only [OA.blind, Bool.and_eq_true] at hb
    have h3 := hb.2
    generalize o.op = q at h2 h3
    cases q <;> try (first | (cases h2; done) | (cases h3; done))
    rename_i c
    obtain ⟨callee, args, argTypes⟩ := c
    cases callee <;> try (first | (cases h2; done) | (cases h3; done))
    rename_i b
    cases b <;> first | (cases h2; done) | (cases h3; done)

theorem opG_adds {all : List Oper} {h : OA} {o : Oper} (ha : opAdds o.op = true) (hw : h.wr o = true) {s : List AV} {ob ob' : List AO} {v : AV} (e : opG TT all h o s ob = some (v, ob')) : ∃ x, ob' = ob ++ [x] := by
  simp only [OA.wr, Bool.and_eq_true] at hw
  unfold opG at e
  cases hg : o.guard with
  | some g => rw [hg] at hw; rw [ha] at hw; cases hw.1.2
  | none =>
    rw [hg] at e
    simp only at e
    generalize o.op = q at ha e
    cases q <;> try (cases ha; done)
    simp only [opK] at e
    split at e
    · simp only [pairK, Option.some.injEq, Prod.mk.injEq] at e
      exact ⟨_, e.2.symm⟩
    · cases e

theorem getD_app {ob : List AO} {j : Nat} (x : AO) (h : ob.getD j .dead ≠ .dead) : (ob ++ [x]).getD j .dead = ob.getD j .dead := by
  by_cases hj : j < ob.length
  · simp [List.getD, List.getElem?_append, hj]
  · exact absurd (by simp [List.getD, List.getElem?_eq_none (Nat.le_of_not_lt hj)]) h

theorem opK_mono {h : OA} {o : Op} (hm : opMono o = true) {s : List AV} {ob : List AO} {v : AV} (x : AO) (e : opK TT h o s ob pairK = some (v, ob)) : opK TT h o s (ob ++ [x]) pairK = some (v, ob ++ [x]) := by
  have X : ∀ (X : (ρ : Type) → (AV → Option ρ) → Option ρ) (Y : (ρ : Type) → (AV → Option ρ) → Option ρ) (hX : ∀ ρ k, X ρ k = (X AV some).bind k) (hY : ∀ ρ k, Y ρ k = (Y AV some).bind k), (∀ v, X AV some = some v → Y AV some = some v) →
      X (AV × List AO) (fun v => pairK v ob) = some (v, ob) → Y (AV × List AO) (fun v => pairK v (ob ++ [x])) = some (v, ob ++ [x]) := by
    intro X Y hX hY h e
    rw [hX] at e
    rw [hY]
    simp only [Option.bind_eq_some_iff, pairK, Option.some.injEq, Prod.mk.injEq, and_true] at e ⊢
    obtain ⟨a, h1, rfl⟩ := e
    exact ⟨a, h a h1, rfl⟩
  cases o <;> try (cases hm; done)
  · rename_i t p
    refine X (fun _ k => loadK TT t (ev s p) ob k) (fun _ k => loadK TT t (ev s p) (ob ++ [x]) k) (fun _ k => loadK_nat k) (fun _ k => loadK_nat k) (fun v h => ?_) e
    unfold loadK at h ⊢
    split at h
    · exact h
    · rename_i j i sub hp
      have hne : ob.getD j .dead ≠ .dead := by
        intro hd
        rw [hd] at h
        cases h
      rw [getD_app x hne]
      exact h
    · exact h
    · cases h
  · rename_i t p q
    refine X (fun _ k => indexAddrK TT t (ev s p).fg (ev s q) ob k) (fun _ k => indexAddrK TT t (ev s p).fg (ev s q) (ob ++ [x]) k) (fun _ k => indexAddrK_nat k) (fun _ k => indexAddrK_nat k) (fun v h => ?_) e
    have hget : ∀ j, ob.getD j .dead ≠ .dead → (ob ++ [x]).getD j .dead = ob.getD j .dead := fun j => getD_app x
    unfold indexAddrK at h ⊢
    generalize (TT t).kind = q1 at h ⊢
    generalize ev s q = q2 at h ⊢
    generalize ev s p = q3 at h ⊢
    cases q1 <;> cases q2 <;> try (first | exact h | (cases h; done))
    · cases q3 <;> try (first | exact h | (cases h; done))
      · rename_i j
        simp only [AV.fg] at h ⊢
        have hne : ob.getD j .dead ≠ .dead := fun hd => by rw [hd] at h; cases h
        rw [hget j hne]
        exact h
      · rename_i j off len
        simp only [AV.fg] at h ⊢
        have hne : ob.getD j .dead ≠ .dead := fun hd => by rw [hd] at h; cases h
        rw [hget j hne]
        exact h

theorem opG_mono {all : List Oper} {h : OA} {o : Oper} (hm : opMono o.op = true) {s : List AV} {ob : List AO} {v : AV} (x : AO) (e : opG TT all h o s ob = some (v, ob)) : opG TT all h o s (ob ++ [x]) = some (v, ob ++ [x]) := by
  unfold opG at e ⊢
  cases hg : o.guard with
  | none => rw [hg] at e; exact opK_mono hm x e
  | some gw =>
    obtain ⟨g, want⟩ := gw
    rw [hg] at e
    simp only at e ⊢
    cases hd : (all[g]?).bind (·.dst) with
    | none => rw [hd] at e; cases e
    | some d =>
      rw [hd] at e
      simp only at e ⊢
      cases hv : s.getD d .dead <;> rw [hv] at e <;> first | (cases e; done) | skip
      · rename_i b
        simp only at e ⊢
        split at e
        · rename_i hb; rw [if_pos hb]; exact opK_mono hm x e
        · rename_i hb
          rw [if_neg hb]
          simp only [Option.some.injEq, Prod.mk.injEq, and_true] at e ⊢
          exact e
      · simp only [Option.some.injEq, Prod.mk.injEq, and_true] at e ⊢
        exact e

theorem drwPairsT_spec {ops : List Oper} {hs : List OA} {n : Nat} (h : drwPairsT ops hs n = true) {w j : Nat} {o p : Oper} (hw : ops[w]? = some o) (hj : ops[j]? = some p) (hwn : w < n) (hjn : j < n) (hwr : (hs.getD w .std).wr o = true) (hne : j ≠ w)
    (hb : (hs.getD j .std).blind p.op = false) : (j < w → near ops 5 w j = true ∨ (opAdds o.op = true ∧ ((hs.getD j .std).wr p = true ∨ opMono p.op = true ∨ drwVia ops hs j w = true)) ∨ (callH (hs.getD w .std) o.op = true ∧ opMono p.op = true)) ∧ (w < j → near ops 5 j w = true ∨ opAdds p.op = true ∨ (callH (hs.getD w .std) o.op = true ∧ opMono p.op = true)) := by
  have h1 := List.all_eq_true.1 h w (List.mem_range.2 hwn)
  rw [hw] at h1
  simp only [hwr, Bool.not_true, Bool.false_or] at h1
  have h2 := List.all_eq_true.1 h1 j (List.mem_range.2 hjn)
  rw [hj] at h2
  simp only [hb, Bool.false_or, Bool.or_eq_true, beq_iff_eq, hne, false_or] at h2
  refine ⟨fun hlt => ?_, fun hlt => ?_⟩
  · rw [if_pos hlt] at h2
    simpa only [Bool.or_eq_true, Bool.and_eq_true, or_assoc] using h2
  · rw [if_neg (by omega)] at h2
    simpa only [Bool.or_eq_true, Bool.and_eq_true, or_assoc] using h2

/-- One that looks at one object does so wherever that one is the same. -/
theorem opK_at {h : OA} {o : Op} (hm : opMono o = true) {s : List AV} {ob ob2 : List AO} {v : AV} (hq : ∀ q, monoPtr s o = some q → ob2.getD q .dead = ob.getD q .dead) (e : opK TT h o s ob pairK = some (v, ob)) : opK TT h o s ob2 pairK = some (v, ob2) := by
  have X : ∀ (X : (ρ : Type) → (AV → Option ρ) → Option ρ) (Y : (ρ : Type) → (AV → Option ρ) → Option ρ) (hX : ∀ ρ k, X ρ k = (X AV some).bind k) (hY : ∀ ρ k, Y ρ k = (Y AV some).bind k), (∀ v, X AV some = some v → Y AV some = some v) →
      X (AV × List AO) (fun v => pairK v ob) = some (v, ob) → Y (AV × List AO) (fun v => pairK v ob2) = some (v, ob2) := by
    intro X Y hX hY h e
    rw [hX] at e
    rw [hY]
    simp only [Option.bind_eq_some_iff, pairK, Option.some.injEq, Prod.mk.injEq, and_true] at e ⊢
    obtain ⟨a, h1, rfl⟩ := e
    exact ⟨a, h a h1, rfl⟩
  cases o <;> try (cases hm; done)
  · rename_i t p
    refine X (fun _ k => loadK TT t (ev s p) ob k) (fun _ k => loadK TT t (ev s p) ob2 k) (fun _ k => loadK_nat k) (fun _ k => loadK_nat k) (fun v h => ?_) e
    simp only [monoPtr] at hq
    unfold loadK at h ⊢
    generalize ev s p = q3 at h hq ⊢
    cases q3 <;> try exact h
    rename_i j i sub
    simp only at h ⊢
    rw [hq j rfl]
    exact h
  · rename_i t p q
    refine X (fun _ k => indexAddrK TT t (ev s p).fg (ev s q) ob k) (fun _ k => indexAddrK TT t (ev s p).fg (ev s q) ob2 k) (fun _ k => indexAddrK_nat k) (fun _ k => indexAddrK_nat k) (fun v h => ?_) e
    simp only [monoPtr] at hq
    unfold indexAddrK at h ⊢
    generalize (TT t).kind = q1 at h ⊢
    generalize ev s q = q2 at h ⊢
    generalize ev s p = q3 at h hq ⊢
    cases q1 <;> cases q2 <;> try (first | exact h | (cases h; done))
    · cases q3 <;> try (first | exact h | (cases h; done))
      · rename_i j
        simp only [AV.fg] at h ⊢
        rw [hq j rfl]
        exact h
      · rename_i j off len
        simp only [AV.fg] at h ⊢
        rw [hq j rfl]
        exact h

theorem opG_at {all : List Oper} {h : OA} {o : Oper} (hm : opMono o.op = true) {s : List AV} {ob ob2 : List AO} {v : AV} (hq : ∀ q, monoPtr s o.op = some q → ob2.getD q .dead = ob.getD q .dead) (e : opG TT all h o s ob = some (v, ob)) : opG TT all h o s ob2 = some (v, ob2) := by
  unfold opG at e ⊢
  cases hg : o.guard with
  | none => rw [hg] at e; exact opK_at hm hq e
  | some gw =>
    obtain ⟨g, want⟩ := gw
    rw [hg] at e
    simp only at e ⊢
    cases hd : (all[g]?).bind (·.dst) with
    | none => rw [hd] at e; cases e
    | some d =>
      rw [hd] at e
      simp only at e ⊢
      cases hv : s.getD d .dead <;> rw [hv] at e <;> first | (cases e; done) | skip
      · rename_i b
        simp only at e ⊢
        split at e
        · rename_i hb; rw [if_pos hb]; exact opK_at hm hq e
        · rename_i hb
          rw [if_neg hb]
          simp only [Option.some.injEq, Prod.mk.injEq, and_true] at e ⊢
          exact e
      · simp only [Option.some.injEq, Prod.mk.injEq, and_true] at e ⊢
        exact e

theorem killOf_get {x : AV} {ob : List AO} {q : Nat} (hn : q ∉ touchAV x) : (killOf x ob).getD q .dead = ob.getD q .dead := by
  cases x <;> first | rfl | skip
  · rename_i j
    have hqj : j ≠ q := fun h => hn (by rw [h]; exact List.mem_cons_self)
    simp [killOf, List.getD, hqj]
  · rename_i j off len
    have hqj : j ≠ q := fun h => hn (by rw [h]; exact List.mem_cons_self)
    simp [killOf, List.getD, hqj]

/-- A call leaves the objects that it does not turn. -/
theorem opK_frame {h : OA} {o : Op} (hc : callH h o = true) {s : List AV} {ob ob' : List AO} {v : AV} (e : opK TT h o s ob pairK = some (v, ob')) :
    ∃ T, touched h s ob o = some T ∧ ∀ q, q < ob.length → q ∉ T → ob'.getD q .dead = ob.getD q .dead := by
    cases o <;> try (cases hc; done)
    · rename_i t p v0
      refine ⟨_, rfl, fun q _ hn => ?_⟩
      simp only [opK] at e
      generalize ev s p = x at e hn
      unfold storeK at e
      cases x <;> try (cases e; done)
      rename_i j i sub
      have hqj : j ≠ q := fun h => hn (by rw [h]; exact List.mem_cons_self)
      simp only at e
      split at e
      · split at e
        · split at e
          · simp only [Option.bind_eq_some_iff, pairK, Option.some.injEq, Prod.mk.injEq] at e
            obtain ⟨y, _, _, h2⟩ := e
            rw [← h2]; simp [List.getD, hqj]
          · cases e
        · split at e
          · simp only [pairK, Option.some.injEq, Prod.mk.injEq] at e
            rw [← e.2]; simp [List.getD, hqj]
          · cases e
        · cases e
      · cases e
    rename_i c
    obtain ⟨callee, args, argTypes⟩ := c
    cases callee <;> try (cases hc; done)
    case builtin b =>
      cases b <;> try (cases hc; done)
      all_goals
        cases h <;> try (cases hc; done)
        rename_i T
        simp only [opK] at e
        generalize hal : args.toList = al at e
        generalize argTypes.toList = tl at e
      · match al, tl with
        | [x, y], [t, u] =>
          simp only at e
          refine ⟨_, rfl, fun q hq hn => ?_⟩
          rw [hal] at hn
          simp only [List.headD_cons] at hn
          generalize ev s x = vx at e hn
          generalize ev s y = vy at e
          unfold appendK at e
          split at e
          · split at e
            · split at e
              · split at e
                · simp only [pairK, Option.some.injEq, Prod.mk.injEq] at e
                  rw [← e.2]
                  have hk : (killOf vx ob).length = ob.length := by cases vx <;> simp [killOf]
                  rw [show ((killOf vx ob ++ [AO.arr T (_ ++ _)]).getD q AO.dead) = (killOf vx ob).getD q .dead by simp [List.getD, List.getElem?_append, hk, hq]]
                  exact killOf_get hn
                · cases e
              · cases e
            · cases e
          · cases e
        | [], _ => simp at e
        | [_], _ => simp at e
        | [_, _], [] => simp at e
        | [_, _], [_] => simp at e
        | [_, _], _ :: _ :: _ :: _ => simp at e
        | _ :: _ :: _ :: _, _ => simp at e
      · match al, tl with
        | [x, y], [t, u] =>
          simp only at e
          refine ⟨_, rfl, fun q hq hn => ?_⟩
          rw [hal] at hn
          simp only [List.headD_cons] at hn
          generalize ev s x = vx at e hn
          generalize ev s y = vy at e
          unfold copyK at e
          split at e
          · split at e
            · split at e
              · rename_i j
                have hqj : j ≠ q := fun h => hn (by rw [h]; exact List.mem_cons_self)
                split at e
                · simp only [pairK, Option.some.injEq, Prod.mk.injEq] at e
                  rw [← e.2]; simp [List.getD, hqj]
                · cases e
              · rename_i j off len
                have hqj : j ≠ q := fun h => hn (by rw [h]; exact List.mem_cons_self)
                split at e
                · simp only [pairK, Option.some.injEq, Prod.mk.injEq] at e
                  rw [← e.2]; simp [List.getD, hqj]
                · cases e
              · cases e
            · cases e
          · cases e
        | [], _ => simp at e
        | [_], _ => simp at e
        | [_, _], [] => simp at e
        | [_, _], [_] => simp at e
        | [_, _], _ :: _ :: _ :: _ => simp at e
        | _ :: _ :: _ :: _, _ => simp at e
    rename_i f
    cases h <;> try (cases hc; done)
    rename_i l
    simp only [opK] at e
    simp only [touched]
    generalize ev s f = x at e ⊢
    cases x <;> try (cases e; done)
    rename_i fn first cap
    cases fn <;> try (cases e; done)
    rename_i g
    simp only at e ⊢
    unfold callK at e
    cases hp : pickC l g (first ++ args.toList.map (ev s) ++ cap) ob with
    | none => rw [hp] at e; cases e
    | some c =>
      rw [hp] at e
      simp only at e ⊢
      rw [c.nat.nat] at e
      simp only [Option.bind_eq_some_iff, pairK, Option.some.injEq, Prod.mk.injEq] at e
      obtain ⟨y, h1, _, h2⟩ := e
      exact ⟨_, rfl, fun q hq hn => by rw [← h2]; exact c.nat.frame _ _ _ h1 q hq hn⟩

theorem opG_frame {all : List Oper} {h : OA} {o : Oper} (hc : callH h o.op = true) {s : List AV} {ob ob' : List AO} {v : AV} (e : opG TT all h o s ob = some (v, ob')) :
    ob' = ob ∨ ∃ T, touched h s ob o.op = some T ∧ ∀ q, q < ob.length → q ∉ T → ob'.getD q .dead = ob.getD q .dead := by
  unfold opG at e
  cases hg : o.guard with
  | none =>
    rw [hg] at e
    exact .inr (opK_frame hc e)
  | some gw =>
    obtain ⟨g, want⟩ := gw
    rw [hg] at e
    simp only at e
    cases hd : (all[g]?).bind (·.dst) with
    | none => rw [hd] at e; cases e
    | some d =>
      rw [hd] at e
      simp only at e
      cases hv : s.getD d .dead <;> rw [hv] at e <;> first | (cases e; done) | skip
      · simp only at e
        split at e
        · exact .inr (opK_frame hc e)
        · simp only [Option.some.injEq, Prod.mk.injEq] at e
          exact .inl e.2.symm
      · simp only [Option.some.injEq, Prod.mk.injEq] at e
        exact .inl e.2.symm

/-- What the checks say, operation by operation. -/
theorem opsT_run {ρ : Type} {r : ρ} {all : List Oper} {k : St → Option ρ} : ∀ (os1 os2 : List Oper) (hs : List OA) (j : Nat) (ts : List TS) (ps : List (Nat × Nat)) (st : St), (∀ h ∈ hs, h.nat) → (∀ i o, os1[i]? = some o → (hs.getD i .std).still o.op = true ∨ (hs.getD i .std).wr o = true) →
    opsT TT all (os1 ++ os2) hs j ts ps st k = some r → ∃ vs s' obF ts' ps', Run (TT := TT) all os1 hs st.sl st.ob vs s' obF ∧ opsT TT all os2 (hs.drop os1.length) (j + os1.length) ts' ps' ⟨s', obF⟩ k = some r ∧
      ((∀ i p, os1[i]? = some p → ∀ x ∈ ts, tsOk1 all (j + i) p.op (slAt os1 vs st.sl i) x = true) ∧
        (∀ i o T, os1[i]? = some o → touched (hs.getD i .std) (slAt os1 vs st.sl i) (obAt vs obF i) o.op = some T → ∀ p ∈ ps, psOk all (j + i, obAt vs obF i, obAt vs obF (i + 1), T) p = true) ∧
        (∀ i i' o p T, i < i' → os1[i]? = some o → os1[i']? = some p → touched (hs.getD i .std) (slAt os1 vs st.sl i) (obAt vs obF i) o.op = some T → tsOk1 all (j + i') p.op (slAt os1 vs st.sl i') (j + i, obAt vs obF i, obAt vs obF (i + 1), T) = true) ∧
        (∀ i i' o p T q, i' < i → os1[i]? = some o → os1[i']? = some p → touched (hs.getD i .std) (slAt os1 vs st.sl i) (obAt vs obF i) o.op = some T → monoPtr (slAt os1 vs st.sl i') p.op = some q → psOk all (j + i, obAt vs obF i, obAt vs obF (i + 1), T) (j + i', q) = true))
  | [], os2, hs, j, ts, ps, st, _, _, e => ⟨[], st.sl, st.ob, ts, ps, .nil hs st.sl st.ob, e, fun i p h => by simp at h, fun i o T h => by simp at h, fun i i' o p T _ h => by simp at h, fun i i' o p T q _ h => by simp at h⟩
  | o :: os1, os2, hs, j, ts, ps, st, hn, hst, e => by
    have hh : hs.getD 0 .std = hs.headD .std := by cases hs <;> rfl
    have h0 := hst 0 o rfl
    rw [hh] at h0
    have hnat : (hs.headD .std).nat := by
      cases hs with
      | nil => trivial
      | cons h hs => exact hn h List.mem_cons_self
    rw [List.cons_append, opsT] at e
    have hts : ts.all (tsOk1 all j o.op st.sl) = true := by
      cases hq : ts.all (tsOk1 all j o.op st.sl) with
      | true => rfl
      | false => rw [hq] at e; cases e
    rw [hts] at e
    simp only at e
    obtain ⟨v, ob', h1, hl, hq, h2⟩ : ∃ v ob', opG TT all (hs.headD .std) o st.sl st.ob = some (v, ob') ∧ st.ob.length ≤ ob'.length ∧ ((hs.headD .std).still o.op = true → ob' = st.ob) ∧
        (match touched (hs.headD .std) st.sl st.ob o.op with
          | none => opsT TT all (os1 ++ os2) hs.tail (j + 1) ts (psAdd j o.op st.sl ps) ⟨putL st.sl o.dst v, ob'⟩ k
          | some T =>
            match ps.all (psOk all (j, st.ob, ob', T)) with
            | false => none
            | true => opsT TT all (os1 ++ os2) hs.tail (j + 1) ((j, st.ob, ob', T) :: ts) (psAdd j o.op st.sl ps) ⟨putL st.sl o.dst v, ob'⟩ k) = some r := by
      by_cases hc : (hs.headD .std).still o.op = true
      · obtain ⟨v, h1, h2⟩ := opsK_step (o := o) (os := []) (s := st.sl) (ob := st.ob) hnat hc e
        exact ⟨v, st.ob, h1, Nat.le_refl _, fun _ => rfl, h2⟩
      · obtain ⟨v, ob', h1, h2, h3⟩ := opsK_stepW (o := o) (os := []) (s := st.sl) (ob := st.ob) (h0.resolve_left hc) e
        exact ⟨v, ob', h1, h2, fun h => absurd h hc, h3⟩
    obtain ⟨ts2, h2, hsub, hnew⟩ : ∃ ts2, opsT TT all (os1 ++ os2) hs.tail (j + 1) ts2 (psAdd j o.op st.sl ps) ⟨putL st.sl o.dst v, ob'⟩ k = some r ∧ (∀ x ∈ ts, x ∈ ts2) ∧ (∀ T, touched (hs.headD .std) st.sl st.ob o.op = some T → (j, st.ob, ob', T) ∈ ts2 ∧ ps.all (psOk all (j, st.ob, ob', T)) = true) := by
      cases ht : touched (hs.headD .std) st.sl st.ob o.op with
      | none =>
        rw [ht] at h2
        exact ⟨ts, h2, fun _ h => h, fun T h => by cases h⟩
      | some T =>
        rw [ht] at h2
        simp only at h2
        cases hp : ps.all (psOk all (j, st.ob, ob', T)) with
        | false => rw [hp] at h2; cases h2
        | true =>
          rw [hp] at h2
          refine ⟨_, h2, fun _ h => List.mem_cons_of_mem _ h, fun T' h => ?_⟩
          simp only [Option.some.injEq] at h
          subst h
          exact ⟨List.mem_cons_self, hp⟩
    have hh2 : ∀ i, hs.getD (i + 1) .std = hs.tail.getD i .std := fun i => by cases hs <;> simp [List.getD]
    obtain ⟨vs, s', obF, ts', ps', h3, h4, f1, f1', f2, f2'⟩ := opsT_run os1 os2 hs.tail (j + 1) _ _ _ (fun h hm => hn h (List.mem_of_mem_tail hm)) (fun i o hi => by rw [← hh2]; exact hst (i + 1) o (by simpa using hi)) h2
    have hrun : Run (TT := TT) all (o :: os1) hs st.sl st.ob ((v, st.ob) :: vs) s' obF := .cons o os1 hs st.sl st.ob v ob' vs s' obF h1 hl hq h3
    refine ⟨(v, st.ob) :: vs, s', obF, ts', ps', hrun, ?_, ?_⟩
    · have e3 : hs.drop (os1.length + 1) = hs.tail.drop os1.length := by cases hs <;> simp
      simp only [List.length_cons, e3]
      rw [show j + (os1.length + 1) = j + 1 + os1.length by omega]
      exact h4
    · have e00 : obAt ((v, st.ob) :: vs) obF 0 = st.ob := rfl
      have e01 : obAt ((v, st.ob) :: vs) obF (0 + 1) = ob' := by
        have : obAt ((v, st.ob) :: vs) obF (0 + 1) = obAt vs obF 0 := by simp [obAt]
        rw [this, run_start h3]
      have eS : ∀ i, obAt ((v, st.ob) :: vs) obF (i + 1) = obAt vs obF i := fun i => by simp [obAt]
      have s0 : slAt (o :: os1) ((v, st.ob) :: vs) st.sl 0 = st.sl := rfl
      have sS : ∀ i, slAt (o :: os1) ((v, st.ob) :: vs) st.sl (i + 1) = slAt os1 vs (putL st.sl o.dst v) i := fun i => rfl
      have hpsm : ∀ p ∈ ps, p ∈ psAdd j o.op st.sl ps := fun p hp => by
        unfold psAdd
        split
        · exact List.mem_cons_of_mem _ hp
        · exact hp
      refine ⟨fun i p hi x hx => ?_, fun i o2 T hi hT p hp => ?_, fun i i' o2 p T hii hi hi' hT => ?_, fun i i' o2 p T q hii hi hi' hT hq2 => ?_⟩
      · cases i with
        | zero =>
          simp only [List.getElem?_cons_zero, Option.some.injEq] at hi
          subst hi
          rw [s0, Nat.add_zero]
          exact List.all_eq_true.1 hts x hx
        | succ i =>
          rw [sS, show j + (i + 1) = j + 1 + i by omega]
          exact f1 i p (by simpa using hi) x (hsub x hx)
      · cases i with
        | zero =>
          simp only [List.getElem?_cons_zero, Option.some.injEq] at hi
          subst hi
          rw [hh, s0, e00] at hT
          rw [e00, e01, Nat.add_zero]
          exact List.all_eq_true.1 (hnew T hT).2 p hp
        | succ i =>
          rw [hh2, sS, eS] at hT
          rw [eS, eS, show j + (i + 1) = j + 1 + i by omega]
          exact f1' i o2 T (by simpa using hi) hT p (hpsm p hp)
      · cases i' with
        | zero => omega
        | succ i' =>
          rw [sS, show j + (i' + 1) = j + 1 + i' by omega]
          cases i with
          | zero =>
            simp only [List.getElem?_cons_zero, Option.some.injEq] at hi
            subst hi
            rw [hh, s0, e00] at hT
            rw [e00, e01]
            exact f1 i' p (by simpa using hi') _ (hnew T hT).1
          | succ i =>
            rw [hh2, sS, eS] at hT
            rw [eS, eS, show j + (i + 1) = j + 1 + i by omega]
            exact f2 i i' o2 p T (by omega) (by simpa using hi) (by simpa using hi') hT
      · cases i with
        | zero => omega
        | succ i =>
          rw [hh2, sS, eS] at hT
          rw [eS, eS, show j + (i + 1) = j + 1 + i by omega]
          cases i' with
          | zero =>
            simp only [List.getElem?_cons_zero, Option.some.injEq] at hi'
            subst hi'
            rw [s0] at hq2
            refine f1' i o2 T (by simpa using hi) hT _ ?_
            unfold psAdd
            rw [hq2]
            exact List.mem_cons_self
          | succ i' =>
            rw [sS] at hq2
            rw [show j + (i' + 1) = j + 1 + i' by omega]
            exact f2' i i' o2 p T q (by omega) (by simpa using hi) (by simpa using hi') hT hq2

theorem drwBack_spec : ∀ (l : List Oper) (j : Nat), drwBack l j = true → ∀ i o, l[i]? = some o → ∀ e ∈ o.after.toList, Region.binds .any e = true → e.on < j + i
  | [], _, _, i, o, hi, _, _, _ => by simp at hi
  | o0 :: r, j, h, i, o, hi, e, he, hb => by
    simp only [drwBack, Bool.and_eq_true] at h
    cases i with
    | zero =>
      simp only [List.getElem?_cons_zero, Option.some.injEq] at hi
      subst hi
      have := List.all_eq_true.1 h.1 e he
      simp [hb] at this
      omega
    | succ i =>
      have := drwBack_spec r (j + 1) h.2 i o (by simpa using hi) e he hb
      omega

theorem lastPlain_spec : ∀ (l : List Oper) (o : Oper), lastPlain (l ++ [o]) = true → o.guard = none
  | [], o, h => by
    cases hg : o.guard with
    | none => rfl
    | some g => simp [lastPlain, hg] at h
  | [_], o, h => lastPlain_spec [] o (by simpa [lastPlain] using h)
  | _ :: p :: r, o, h => lastPlain_spec (p :: r) o (by simpa [lastPlain] using h)

theorem near_listed {ops : Array Oper} {listed : Array Bool} (hcl : ∀ j o, ops[j]? = some o → listed.getD j false = true → ∀ e ∈ o.after.toList, Region.binds .any e = true → listed.getD e.on false = true) :
    ∀ (d j i : Nat), (∀ o, ops[j]? = some o → ∀ e ∈ o.after.toList, Region.binds .any e = true → listed.getD e.on false = true) → near ops.toList d j i = true → listed.getD i false = true
  | 0, _, _, _, hi => by cases hi
  | d + 1, j, i, h, hi => by
    simp only [near] at hi
    cases ho : ops.toList[j]? with
    | none => rw [ho] at hi; cases hi
    | some o =>
      rw [ho] at hi
      have ho' : ops[j]? = some o := by simpa using ho
      simp only [List.any_eq_true, Bool.and_eq_true, Bool.or_eq_true, beq_iff_eq] at hi
      obtain ⟨e, he, hb, hi⟩ := hi
      have hle := h o ho' e he hb
      rcases hi with rfl | hi
      · exact hle
      · exact near_listed hcl d e.on i (fun o2 ho2 => hcl e.on o2 ho2 hle) hi
end

end Go.Proofs.YtlbammfnkphajaaGreatDoor.Abs
