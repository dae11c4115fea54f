/- Every operation: what the abstract machine answers, the model's operation does. -/
import Derived.Test.YtlbammfnkphajaaGreatDoorAbsOpsM
namespace Go.Proofs.YtlbammfnkphajaaGreatDoor.Abs
open Go

section
variable {F : Nat → Prop} {w : World} {G : Gs} {ob : List AO} {P : Program} {TT : Nat → TI} {ρ : Type} {r : ρ} {A : Nat → Prop} {n : Nat}

/-! ### Values that name no object -/

theorem cellsAV_flat : ∀ (T : Ty) (v : T.D), (cellsAV T v).all flat = true
  | .int _, _ => rfl
  | .bool, _ => rfl
  | .str, _ => rfl
  | .sl _, _ => rfl
  | .pair a b, v => by simp only [cellsAV, List.all_append, cellsAV_flat a v.1, cellsAV_flat b v.2, Bool.and_true]
  | .st a, v => cellsAV_flat a v
  | .unit, _ => rfl
  | .ptr _, _ => rfl
  | .map _ _, _ => rfl
  | .nsl _, _ => rfl

theorem all_getD {f : AV → Bool} {l : List AV} (h : l.all f = true) {i : Nat} (hi : i < l.length) : f (l.getD i .dead) = true := by
  have := List.all_eq_true.1 h _ (List.getElem_mem hi)
  simpa [List.getD, hi] using this

theorem toAV_flat1 (T : Ty) (d : T.D) (h : T.isAgg = false) : flat (toAV T d) = true := by
  cases T <;> first | rfl | cases h

theorem toAV_flat (T : Ty) (d : T.D) : flatArg (toAV T d) = true := by
  cases T with
  | pair a b => simp only [toAV, flatArg, List.all_append, cellsAV_flat a d.1, cellsAV_flat b d.2, Bool.and_true]
  | st a => exact cellsAV_flat a d
  | _ => rfl

theorem flat_arg {x : AV} (h : flat x = true) : flatArg x = true := by
  cases x <;> first | exact h | (simp [Abs.flat] at h)

theorem Rep.flatArg {A' : Nat → Prop} {n' : Nat} {G' : Gs} (hA : ∀ b, A' b → A b) {x : AV} {v : Value} (h : Rep A w n G x v) (hx : flatArg x = true) : Rep A' w n' G' x v := by
  induction h with
  | int k m => exact .int k m
  | bool b => exact .bool b
  | str s => exact .str s
  | islE T a cap => exact .islE T a cap
  | isl T xs b o cap cs hne hT hcap hA2 hc hr ih =>
    refine .isl T xs b o cap cs hne hT hcap (fun h => hA2 (hA b h)) hc fun i j hi hj => ih i j hi hj ?_
    exact flat_arg (all_getD (cellsAV_flat T _) (by rw [cellsAV_length]; exact hj))
  | iptr T v sub b o cs hT hA2 hc hr ih =>
    refine .iptr T v sub b o cs hT (fun h => hA2 (hA b h)) hc fun j hj => ih j hj ?_
    exact flat_arg (all_getD (cellsAV_flat T _) (by rw [cellsAV_length]; exact hj))
  | imapE K V => exact .imapE K V
  | imap K V es b ms clock hA2 hb hst hl hk hv ihk ihv =>
    exact .imap K V es b ms clock (fun h => hA2 (hA b h)) hb hst hl (fun i hi => ihk i hi (toAV_flat K _)) (fun i hi => ihv i hi (toAV_flat V _))
  | nslE T => exact .nslE T
  | nsl T xs v hne h ih => exact .nsl T xs v hne (ih rfl)
  | nilsl => exact .nilsl
  | nilptr => exact .nilptr
  | nilmap => exact .nilmap
  | nilfn => exact .nilfn
  | nilifc => exact .nilifc
  | fn f fi ca vf vc h1 h2 hf hc ih1 ih2 =>
    cases fi with
    | cons => simp [Abs.flatArg, Abs.flat] at hx
    | nil =>
      cases ca with
      | cons => simp [Abs.flatArg, Abs.flat] at hx
      | nil => exact .fn f [] [] vf vc h1 h2 (fun i hi => by cases hi) (fun i hi => by cases hi)
  | agg cs vs hl hr ih => exact .agg cs vs hl fun i hi => ih i hi (flat_arg (all_getD hx hi))
  | _ => simp [Abs.flatArg, Abs.flat] at hx

theorem Rep.flat {A' : Nat → Prop} {n' : Nat} {G' : Gs} (hA : ∀ b, A' b → A b) {x : AV} {v : Value} (h : Rep A w n G x v) (hx : flat x = true) : Rep A' w n' G' x v :=
  h.flatArg hA (flat_arg hx)

theorem RepL.flat {A' : Nat → Prop} {n' : Nat} {G' : Gs} (hA : ∀ b, A' b → A b) : ∀ {l : List AV} {vs : List Value}, RepL A w n G l vs → l.all flatArg = true → RepL A' w n' G' l vs
  | [], [], _, _ => trivial
  | x :: l, v :: vs, h, hx => by
    simp only [List.all_cons, Bool.and_eq_true] at hx
    exact ⟨h.1.flatArg hA hx.1, RepL.flat hA h.2 hx.2⟩

/-! ### What a function does -/

def RepRes (A : Nat → Prop) (w : World) (n : Nat) (G : Gs) : List AV → Value → Prop
  | [x], v => Rep A w n G x v
  | xs, v => ∃ vs, v = .tuple vs ∧ RepL A w n G xs vs.toList

def FnSound (P : Program) (fid : Nat) (F : Fun) : Prop :=
  ∀ (ρ : Type) (args : List AV) (ob : List AO) (k : List AV → List AO → Option ρ) (r : ρ), F ρ args ob k = some r →
    ∀ (Fb : Nat → Prop) (w : World) (G : Gs) (vs : Array Value), Inv Fb w G ob → RepL (avoid Fb G) w ob.length G args vs.toList →
      Calls P fid vs w fun e w' => ∃ res ob' G' v, e = .returned v ∧ k res ob' = some r ∧ RepRes (avoid Fb G') w' ob'.length G' res v ∧ Inv Fb w' G' ob' ∧ Trans ob.length w G w' G' ∧ ob.length ≤ ob'.length

def Callee'.ok (P : Program) (c : Callee') : Prop := FnSound P c.fid c.F ∧ ∃ fn q, P.funcs[c.fid]? = some fn ∧ fn.body = some q ∧ fn.name ≠ "runtime.NumGoroutine"

/-- A function that leaves the objects as they are. -/
def FunQuiet (F : Fun) : Prop := ∀ (ρ : Type) (args : List AV) (ob : List AO) (k : List AV → List AO → Option ρ), F ρ args ob k = (F (List AV) args ob fun a _ => some a).bind fun a => k a ob

def OAok (P : Program) : OA → Prop
  | .call l => ∀ c ∈ l, c.ok P
  | .callq l => ∀ c ∈ l, c.ok P ∧ FunQuiet c.F
  | .eqs t => eqTypeB P t = true
  | .frz _ h => OAok P h
  | .nn _ h => OAok P h
  | _ => True

theorem OAok.bare {P : Program} {h : OA} (H : OAok P h) : OAok P h.bare := by
  cases h with
  | nn js h => rw [OAok] at H; exact H
  | frz js h => rw [OAok] at H; cases h <;> simp only [OA.bare] <;> first | exact H | (rw [OAok] at H; exact H)
  | _ => exact H

theorem repL_index : ∀ {l : List AV} {vs : List Value}, RepL A w n G l vs → l.length = vs.length ∧ ∀ i, i < l.length → Rep A w n G (l.getD i .dead) (vs.getD i undef)
  | [], [], _ => ⟨rfl, fun i hi => by cases hi⟩
  | x :: l, v :: vs, h => by
    obtain ⟨h1, h2⟩ := repL_index h.2
    refine ⟨by simp [h1], fun i hi => ?_⟩
    cases i with
    | zero => exact h.1
    | succ i =>
      rw [List.getD_cons_succ, List.getD_cons_succ]
      exact h2 i (by simpa using hi)

theorem resAV_rep {xs : List AV} {v : Value} (h : RepRes A w n G xs v) : Rep A w n G (resAV xs) v := by
  match xs, h with
  | [x], h => exact h
  | [], ⟨vs, hv, hr⟩ =>
    subst hv
    obtain ⟨h1, h2⟩ := repL_index hr
    exact .tup [] vs (by simpa using h1) fun i hi => by cases hi
  | x :: y :: l, ⟨vs, hv, hr⟩ =>
    subst hv
    obtain ⟨h1, h2⟩ := repL_index hr
    refine .tup _ vs (by simpa using h1) fun i hi => ?_
    have := h2 i hi
    have hi' : i < vs.size := by rw [h1] at hi; simpa using hi
    simpa [List.getD, Array.getD, hi'] using this

theorem pickC_mem : ∀ {l : List Callee'} {g : Nat} {args : List AV} {ob : List AO} {c : Callee'}, pickC l g args ob = some c → c ∈ l ∧ c.fid = g
  | [], _, _, _, _, h => by cases h
  | x :: l, g, args, ob, c, h => by
    simp only [pickC] at h
    split at h
    · rename_i hx
      simp only [Option.some.injEq] at h
      subst h
      simp only [Bool.and_eq_true, beq_iff_eq] at hx
      exact ⟨List.mem_cons_self, hx.1⟩
    · obtain ⟨h1, h2⟩ := pickC_mem h
      exact ⟨List.mem_cons_of_mem _ h1, h2⟩

theorem callK_sound {l : List Callee'} {g : Nat} (hl : ∀ c ∈ l, c.ok P) (inv : Inv F w G ob) {args : List AV} {vs : Array Value} {k : AV → List AO → Option ρ} (e : callK l g args ob k = some r)
    (ha : RepL (avoid F G) w ob.length G args vs.toList) :
    (∃ fn q, P.funcs[g]? = some fn ∧ fn.body = some q ∧ fn.name ≠ "runtime.NumGoroutine") ∧
    Calls P g vs w fun en w' => ∃ z, en = .returned z ∧ ∃ v ob' G', k v ob' = some r ∧ Rep (avoid F G') w' ob'.length G' v z ∧ Inv F w' G' ob' ∧ Trans ob.length w G w' G' ∧ ob.length ≤ ob'.length := by
  unfold callK at e
  split at e
  case h_2 => cases e
  rename_i c hc
  obtain ⟨hm, rfl⟩ := pickC_mem hc
  refine ⟨(hl c hm).2, ((hl c hm).1 _ args ob _ r e F w G vs inv ha).mono ?_⟩
  rintro en w' ⟨res, ob', G', v, rfl, hk, hres, hinv', ht, hle⟩
  exact ⟨v, rfl, _, ob', G', hk, resAV_rep hres, hinv', ht, hle⟩

theorem callQ_sound {l : List Callee'} {g : Nat} (hl : ∀ c ∈ l, c.ok P ∧ FunQuiet c.F) (inv : Inv F w G ob) {args : List AV} {vs : Array Value} {k : AV → List AO → Option ρ} (e : callQ l g args ob k = some r)
    (ha : RepL (avoid F G) w ob.length G args vs.toList) :
    (∃ fn q, P.funcs[g]? = some fn ∧ fn.body = some q ∧ fn.name ≠ "runtime.NumGoroutine") ∧
    Calls P g vs w fun en w' => ∃ z, en = .returned z ∧ ∃ v ob' G', k v ob' = some r ∧ Rep (avoid F G') w' ob'.length G' v z ∧ Inv F w' G' ob' ∧ Trans ob.length w G w' G' ∧ ob.length ≤ ob'.length := by
  unfold callQ at e
  split at e
  case h_2 => cases e
  rename_i c hc
  obtain ⟨hm, rfl⟩ := pickC_mem hc
  obtain ⟨hok, hq⟩ := hl c hm
  rw [hq] at e
  simp only [Option.bind_eq_some_iff] at e
  obtain ⟨a, e1, e2⟩ := e
  have e3 : c.F (List AV × List AO) args ob (fun x y => some (x, y)) = some (a, ob) := by rw [hq, e1]; rfl
  refine ⟨hok.2, (hok.1 _ args ob _ _ e3 F w G vs inv ha).mono ?_⟩
  rintro en w' ⟨res, ob', G', v, rfl, hk, hres, hinv', ht, hle⟩
  simp only [Option.some.injEq, Prod.mk.injEq] at hk
  obtain ⟨rfl, rfl⟩ := hk
  exact ⟨v, rfl, _, ob', G', e2, resAV_rep hres, hinv', ht, hle⟩

/-! ### All operations -/

def After (F : Nat → Prop) (w : World) (G : Gs) (ob : List AO) {ρ : Type} (k : AV → List AO → Option ρ) (r : ρ) (z : Value) (w' : World) : Prop :=
  ∃ v ob' G', k v ob' = some r ∧ Rep (avoid F G') w' ob'.length G' v z ∧ Inv F w' G' ob' ∧ Trans ob.length w G w' G' ∧ ob.length ≤ ob'.length

theorem after_same (inv : Inv F w G ob) {k : AV → List AO → Option ρ} {v : AV} {z : Value} (h : k v ob = some r) (hr : Rep (avoid F G) w ob.length G v z) : After F w G ob k r z w :=
  ⟨v, ob, G, h, hr, inv, Trans.refl _ _ _, Nat.le_refl _⟩

theorem opt_rep {s : List AV} {a : Act} (sl : Slots A w n G s a.tmps) (x : Option Operand) : OptRep A w n G (x.map (ev s)) (x.map a.eval) := by
  cases x with
  | none => trivial
  | some x => exact sl.ev x

theorem repL_of : ∀ {l : List AV} {vs : List Value}, l.length = vs.length → (∀ i, i < l.length → Rep A w n G (l.getD i .dead) (vs.getD i undef)) → RepL A w n G l vs
  | [], [], _, _ => trivial
  | x :: l, v :: vs, h, hr => ⟨hr 0 (by simp), repL_of (by simpa using h) fun i hi => by
      have := hr (i + 1) (by simpa using hi)
      simpa using this⟩

theorem repL_append : ∀ {l m : List AV} {vs ws : List Value}, RepL A w n G l vs → RepL A w n G m ws → RepL A w n G (l ++ m) (vs ++ ws)
  | [], _, [], _, _, h => h
  | _ :: _, _, _ :: _, _, h, h' => ⟨h.1, repL_append h.2 h'⟩

theorem oa_std {P : Program} : OAok P .std = True := by simp [OAok]
theorem oa_inl {P : Program} {T : Ty} : OAok P (.inl T) = True := by simp [OAok]
theorem oa_obj {P : Program} {T : Ty} : OAok P (.obj T) = True := by simp [OAok]

theorem opK_sound (tt : TTok P TT) {h : OA} (hh : OAok P h) (inv : Inv F w G ob) {o : Oper} {s : List AV} {a : Act} (sl : Slots (avoid F G) w ob.length G s a.tmps) {k : AV → List AO → Option ρ}
    (e : opK TT h o.op s ob k = some r) : Post P o a w (After F w G ob k r) := by
  have hex : ∀ (m : Sem Value), execOp a.eval o = (do pure (Next.value (← m)) : Sem Next) → (∃ v z ob' w' G', k v ob' = some r ∧ Rep (avoid F G') w' ob'.length G' v z ∧ Inv F w' G' ob' ∧ Trans ob.length w G w' G' ∧ ob.length ≤ ob'.length ∧ m.run P w = .ok z w') →
      Post P o a w (After F w G ob k r) := by
    rintro m hm ⟨v, z, ob', w', G', h1, h2, h3, h4, h5, h6⟩
    exact post_value (by rw [hm]; exact run_v h6) ⟨v, ob', G', h1, h2, h3, h4, h5⟩
  have hpu : ∀ (m : Sem Value), execOp a.eval o = (do pure (Next.value (← m)) : Sem Next) → (∃ v z, k v ob = some r ∧ Rep (avoid F G) w ob.length G v z ∧ m.run P w = .ok z w) →
      Post P o a w (After F w G ob k r) := by
    rintro m hm ⟨v, z, h1, h2, h6⟩
    exact hex m hm ⟨v, z, ob, w, G, h1, h2, inv, Trans.refl _ _ _, Nat.le_refl _, h6⟩
  cases ho : o.op with
  | move x => rw [ho] at e; simp only [opK] at e; exact post_value (by simp [execOp, ho]) (after_same inv e (sl.ev x))
  | assign x => rw [ho] at e; simp only [opK] at e; exact post_value (by simp [execOp, ho]) (after_same inv e (sl.ev x))
  | pick c x y =>
    rw [ho] at e
    simp only [opK] at e
    split at e
    · rename_i t hc
      have hcr := sl.ev c
      rw [hc] at hcr
      generalize hcv : a.eval c = cv at hcr
      cases hcr
      obtain ⟨v, h1, h2⟩ := pickK_sound e (sl.ev x) (sl.ev y)
      exact post_value (by simp [execOp, ho, hcv, asBool]) (after_same inv h1 h2)
    · cases e
  | binOp op t x y u =>
    rw [ho] at e
    simp only [opK] at e
    split at e
    · rename_i t'
      split at e
      · rename_i ht
        have ht' : t' = t := by simpa using ht
        subst ht'
        obtain ⟨v, z, h1, h2, h3⟩ := eqsK_sound tt hh e (sl.ev x) (sl.ev y)
        exact hpu _ (by simp only [execOp, ho]) ⟨v, z, h1, h2, h3 x y w⟩
      · cases e
    · obtain ⟨v, z, h1, h2, h3⟩ := nilK_sound tt inv e (sl.ev x) (sl.ev y)
      exact hpu _ (by simp only [execOp, ho]) ⟨v, z, h1, h2, h3 x y w⟩
    · obtain ⟨v, z, h1, h2, h3⟩ := nilK_sound tt inv (nilPK_nilK e) (sl.ev x) (sl.ev y)
      exact hpu _ (by simp only [execOp, ho]) ⟨v, z, h1, h2, h3 x y w⟩
    · obtain ⟨v, z, h1, h2, h3⟩ := binK_sound tt e (sl.ev x) (sl.ev y)
      exact hpu _ (by simp only [execOp, ho]) ⟨v, z, h1, h2, h3 x y w⟩
  | unOp op t x =>
    rw [ho] at e
    simp only [opK] at e
    obtain ⟨v, z, h1, h2, h3⟩ := unK_sound (P := P) e (sl.ev x)
    exact hpu _ (by simp only [execOp, ho]) ⟨v, z, h1, h2, h3 w⟩
  | load t p =>
    rw [ho] at e
    simp only [opK] at e
    exact hpu _ (by simp only [execOp, ho]) (loadK_sound tt inv e (sl.ev p))
  | store t p v =>
    rw [ho] at e
    simp only [opK] at e
    obtain ⟨ob', w', h1, h2, h3, h4, h5⟩ := storeK_sound tt inv e (sl.ev p) (sl.ev v)
    exact post_skip (by simp only [execOp, ho]; exact run_u h5) ⟨_, ob', G, h1, .undef, h3, h4, by omega⟩
  | fieldAddr t p f =>
    rw [ho] at e
    simp only [opK] at e
    exact hpu _ (by simp only [execOp, ho]) (fieldAddrK_sound tt e (sl.ev p))
  | field t x f =>
    rw [ho] at e
    simp only [opK] at e
    exact hpu _ (by simp only [execOp, ho]) (fieldK_sound tt e (sl.ev x))
  | indexAddr t x i =>
    rw [ho] at e
    simp only [opK] at e
    exact hpu _ (by simp only [execOp, ho]) (indexAddrK_sound tt inv e (sl.ev x).fg (sl.ev i))
  | index t x i =>
    rw [ho] at e
    simp only [opK] at e
    exact hpu _ (by simp only [execOp, ho]) (indexK_sound tt e (sl.ev x) (sl.ev i))
  | slice t x lo hi mx =>
    rw [ho] at e
    simp only [opK] at e
    exact hpu _ (by simp only [execOp, ho]) (sliceK_sound tt inv (sliceK_ob e) (sl.ev x).fg (opt_rep sl lo) (opt_rep sl hi) (opt_rep sl mx))
  | convert src dst x =>
    rw [ho] at e
    simp only [opK] at e
    split at e
    · cases e
    · rename_i hk
      exact hex _ (by simp only [execOp, ho]) (convertK_sound tt inv e (sl.ev x) (isOther_not hk))
  | makeSlice t l c =>
    rw [ho] at e
    simp only [opK] at e
    split at e
    · exact hex _ (by simp only [execOp, ho]) (makeSliceK_sound tt inv e (sl.ev l) (sl.ev c))
    · cases e
  | buildSlice t len parts =>
    rw [ho] at e
    simp only [opK] at e
    refine hex (Instr.buildSlice t len (parts.map fun (p : Nat × Operand) => (p.1, a.eval p.2))) (by simp only [execOp, ho]) (buildSliceK_sound tt inv e ?_)
    have := slots_parts sl parts.toList
    simpa using this
  | build t parts =>
    rw [ho] at e
    simp only [opK] at e
    refine hpu (Instr.build t (parts.map fun (p : Nat × Operand) => (p.1, a.eval p.2))) (by simp only [execOp, ho]) (buildK_sound tt e ?_)
    have := slots_parts sl parts.toList
    simpa using this
  | box t x =>
    rw [ho] at e
    simp only [opK] at e
    exact hex (Instr.box t (a.eval x)) (by simp only [execOp, ho]) (boxK_sound inv e (sl.ev x))
  | alloc t =>
    rw [ho] at e
    simp only [opK] at e
    split at e
    · rename_i hk
      obtain ⟨z, w', G', h1, h2, h3, h4⟩ := alloc_sound tt inv (t := t) (isOther_false hk.1) hk.2
      exact hex _ (by simp only [execOp, ho]) ⟨_, z, _, w', G', e, by simpa using h1, h2, h3, by simp, h4⟩
    · cases e
  | extract x i =>
    rw [ho] at e
    simp only [opK] at e
    split at e
    · rename_i vs hx
      split at e
      · rename_i hi
        have hr := sl.ev x
        rw [hx] at hr
        generalize hcv : a.eval x = cv at hr
        cases hr with
        | tup _ ws hl hw =>
          have hi' : i < ws.size := by omega
          refine hpu (Instr.extract (a.eval x) i) (by simp only [execOp, ho]) ⟨_, ws.getD i undef, e, hw i hi, ?_⟩
          rw [hcv]
          simp [Instr.extract, Array.getD, hi']
      · cases e
    · cases e
  | makeInterface t x => rw [ho] at e; simp [opK] at e
  | makeFunc fn first cap =>
    rw [ho] at e
    simp only [opK] at e
    refine hpu (Instr.makeFunc fn (first.map a.eval) (cap.map a.eval)) (by simp only [execOp, ho]) ⟨_, _, e, .fn fn _ _ (first.map a.eval) (cap.map a.eval) (by simp) (by simp) (fun i hi => ?_) (fun i hi => ?_), rfl⟩
    · have hi' : i < first.size := by simpa using hi
      have e1 : (first.toList.map (ev s)).getD i .dead = ev s first[i] := by simp [List.getD, hi']
      have e2 : (first.map a.eval).getD i undef = a.eval first[i] := by simp [Array.getD, hi']
      rw [e1, e2]; exact sl.ev _
    · have hi' : i < cap.size := by simpa using hi
      have e1 : (cap.toList.map (ev s)).getD i .dead = ev s cap[i] := by simp [List.getD, hi']
      have e2 : (cap.map a.eval).getD i undef = a.eval cap[i] := by simp [Array.getD, hi']
      rw [e1, e2]; exact sl.ev _
  | makeMap t rv =>
    rw [ho] at e
    cases rv with
    | some x => simp [opK] at e
    | none =>
      simp only [opK] at e
      split at e
      · rename_i K V kt vt _
        split at e
        · obtain ⟨z, w', G', h1, h2, h3, h4⟩ := makeMap_sound (P := P) inv K V (t := t)
          exact hex _ (by simp only [execOp, ho]; rfl) ⟨_, z, _, w', G', e, by simpa using h1, h2, h3, by simp, h4⟩
        · cases e
      · cases e
  | lookup t x i ok =>
    rw [ho] at e
    simp only [opK] at e
    exact hpu _ (by simp only [execOp, ho]) (lookupK_sound tt inv e (sl.ev x) (sl.ev i))
  | mapUpdate t m i v =>
    rw [ho] at e
    simp only [opK] at e
    obtain ⟨ob', w', h1, h2, h3, h4, h5⟩ := mapUpdateK_sound tt inv e (sl.ev m) (sl.ev i) (sl.ev v)
    exact post_skip (by simp only [execOp, ho]; exact run_u h5) ⟨_, ob', G, h1, .undef, h3, h4, by omega⟩
  | insert t m i v =>
    rw [ho] at e
    simp only [opK] at e
    obtain ⟨ob', w', h1, h2, h3, h4, h5⟩ := mapUpdateK_sound tt inv e (sl.ev m) (sl.ev i) (sl.ev v)
    exact post_skip (by simp only [execOp, ho]; exact run_u h5) ⟨_, ob', G, h1, .undef, h3, h4, by omega⟩
  | nilCheck x =>
    rw [ho] at e
    simp only [opK] at e
    split at e
    · rename_i j i sub hx
      have hr := sl.ev x
      rw [hx] at hr
      generalize hcv : a.eval x = cv at hr
      have hr' := hr
      cases hr with
      | ptr _ _ _ _ hj hv hg =>
        obtain ⟨b, o', rfl⟩ := hv
        exact post_value (by simp [execOp, ho, hcv]) (after_same inv e hr')
    · rename_i T v sub hx
      have hr := sl.ev x
      rw [hx] at hr
      generalize hcv : a.eval x = cv at hr
      have hr' := hr
      cases hr with
      | iptr _ _ _ b o' cs h1 h2 h3 h4 => exact post_value (by simp [execOp, ho, hcv]) (after_same inv e hr')
    · cases e
  | call c =>
    rw [ho] at e
    obtain ⟨callee, args, argTypes⟩ := c
    cases callee with
    | invoke rv m => simp only [opK] at e; cases e
    | builtin b =>
      simp only [opK] at e
      have hexec : execOp a.eval o = builtin b argTypes o.type (args.map fun | .const _ => true | _ => false) (args.map a.eval) := by
        simp only [execOp, ho, resolve, invoke]
        rfl
      have hargs : (args.map a.eval).toList = args.toList.map a.eval := by simp
      split at e
      · rename_i x t h1 h2
        obtain ⟨v, z, g1, g2, g3⟩ := lenK_sound tt inv e (sl.ev x).fg o.type
        have e1 : args = #[x] := by apply Array.ext'; simpa using h1
        have e2 : argTypes = #[t] := by apply Array.ext'; simpa using h2
        subst e1; subst e2
        exact post_value (by rw [hexec]; simpa [builtin] using run_v g3) (after_same inv g1 g2)
      · rename_i x y t u h1 h2
        split at e
        · obtain ⟨v, z, ob', w', G', g1, g2, g3, g4, g5, g6⟩ := appendK_sound tt inv e (sl.ev x) (sl.ev y).fg o.type
          have e1 : args = #[x, y] := by apply Array.ext'; simpa using h1
          have e2 : argTypes = #[t, u] := by apply Array.ext'; simpa using h2
          subst e1; subst e2
          exact post_value (by rw [hexec]; simpa [builtin] using run_v g6) ⟨v, ob', G', g1, g2, g3, g4, g5⟩
        · obtain ⟨v, z, ob', w', G', g1, g2, g3, g4, g5, g6⟩ := appendZK_sound tt inv e (sl.ev x) (sl.ev y) o.type
          have e1 : args = #[x, y] := by apply Array.ext'; simpa using h1
          have e2 : argTypes = #[t, u] := by apply Array.ext'; simpa using h2
          subst e1; subst e2
          exact post_value (by rw [hexec]; simpa [builtin] using run_v g6) ⟨v, ob', G', g1, g2, g3, g4, g5⟩
        · cases e
      · rename_i x y t u h1 h2
        split at e
        · obtain ⟨v, z, ob', w', G', g1, g2, g3, g4, g5, g6⟩ := copyK_sound tt inv e (sl.ev x) (sl.ev y).fg u o.type
          have e1 : args = #[x, y] := by apply Array.ext'; simpa using h1
          have e2 : argTypes = #[t, u] := by apply Array.ext'; simpa using h2
          subst e1; subst e2
          exact post_value (by rw [hexec]; simpa [builtin] using run_v g6) ⟨v, ob', G', g1, g2, g3, g4, g5⟩
        · cases e
      · rename_i x t h1 h2
        obtain ⟨v, z, ob', w', G', g1, g2, g3, g4, g5, g6⟩ := clearK_sound tt inv e (sl.ev x) o.type
        have e1 : args = #[x] := by apply Array.ext'; simpa using h1
        have e2 : argTypes = #[t] := by apply Array.ext'; simpa using h2
        subst e1; subst e2
        exact post_value (by rw [hexec]; simpa [builtin] using run_v g6) ⟨v, ob', G', g1, g2, g3, g4, g5⟩
      · rename_i x t h1 h2
        split at e
        · rename_i el hk hx
          have e1 : args = #[x] := by apply Array.ext'; simpa using h1
          have e2 : argTypes = #[t] := by apply Array.ext'; simpa using h2
          subst e1; subst e2
          have hr := sl.ev x
          rw [hx] at hr
          generalize hcv : a.eval x = cv at hr
          cases hr
          refine post_value (x := .int .i64 0) (w' := w) ?_ (after_same inv e (.int _ _))
          rw [hexec]
          simp [builtin, Builtin.cap_, run_underlying (tt_sl tt hk), hcv, goInt]
        · cases e
      · rename_i l
        obtain ⟨v, z, g1, g2, g3⟩ := mxK_sound (P := P) false e (slots_list sl _) argTypes o.type
        refine post_value (x := z) (by
          rw [hexec]
          simp only [Bool.false_eq_true, if_false] at g3
          have : (args.toList.map a.eval).toArray = args.map a.eval := by apply Array.ext'; simp
          rw [this] at g3
          simpa [builtin] using run_v g3) (after_same inv g1 g2)
      · rename_i l
        obtain ⟨v, z, g1, g2, g3⟩ := mxK_sound (P := P) true e (slots_list sl _) argTypes o.type
        refine post_value (x := z) (by
          rw [hexec]
          simp only [if_true] at g3
          have : (args.toList.map a.eval).toArray = args.map a.eval := by apply Array.ext'; simp
          rw [this] at g3
          simpa [builtin] using run_v g3) (after_same inv g1 g2)
      · cases e
    | value f =>
      simp only [opK] at e
      have key : ∀ (g : Nat) (first cap : List AV), ev s f = .fn (.func g) first cap →
          (∀ (vs : Array Value), RepL (avoid F G) w ob.length G (first ++ args.toList.map (ev s) ++ cap) vs.toList → (∃ fn q, P.funcs[g]? = some fn ∧ fn.body = some q ∧ fn.name ≠ "runtime.NumGoroutine") ∧
            Calls P g vs w fun en w' => ∃ z, en = .returned z ∧ ∃ v ob' G', k v ob' = some r ∧ Rep (avoid F G') w' ob'.length G' v z ∧ Inv F w' G' ob' ∧ Trans ob.length w G w' G' ∧ ob.length ≤ ob'.length) →
          Post P o a w (After F w G ob k r) := by
        intro g first cap hf H
        have hr := sl.ev f
        rw [hf] at hr
        generalize hcv : a.eval f = cv at hr
        cases hr with
        | fn _ _ _ vf vc h1 h2 h3 h4 =>
          have hl1 : RepL (avoid F G) w ob.length G first vf.toList := repL_of (by simpa using h1) (fun i hi => by
            have hi' : i < vf.size := by omega
            have := h3 i hi
            simpa [List.getD, Array.getD, hi'] using this)
          have hl2 : RepL (avoid F G) w ob.length G cap vc.toList := repL_of (by simpa using h2) (fun i hi => by
            have hi' : i < vc.size := by omega
            have := h4 i hi
            simpa [List.getD, Array.getD, hi'] using this)
          have hargs : RepL (avoid F G) w ob.length G (first ++ args.toList.map (ev s) ++ cap) (vf ++ args.map a.eval ++ vc).toList := by
            have := repL_append (repL_append hl1 (slots_list sl args.toList)) hl2
            simpa using this
          obtain ⟨⟨fn, c, hfn, hbody, hname⟩, hc⟩ := H _ hargs
          refine post_enter (f := g) (args := vf ++ args.map a.eval ++ vc) (w' := w) ?_ hc
          simp only [execOp, ho, resolve, hcv, Deferred.ofValue, invoke, callFunc]
          simp [hfn, hbody, hname]
      split at e
      · rename_i l g first cap hf
        exact key g first cap hf fun vs hvs => callK_sound hh inv e hvs
      · rename_i l g first cap hf
        exact key g first cap hf fun vs hvs => callQ_sound hh inv e hvs
      · cases e
  | _ => rw [ho] at e; simp [opK] at e
end

end Go.Proofs.YtlbammfnkphajaaGreatDoor.Abs
