/- What hands back a slab as it was leaves all objects as they are. -/
import Derived.Test.YtlbammfnkphajaaGreatDoorAbsFn
namespace Go.Proofs.YtlbammfnkphajaaGreatDoor.Abs.Sq
open Go Go.Proofs Go.RowKit Go.Proofs.YtlbammfnkphajaaGreatDoor.Abs

def slab_Q.ins : Spec := ⟨28, 0, [.box (.cons (.ref 1) (.cons (.ref 2) (.cons (.v (.int .i64)) (.cons (.v (.int .i64)) .nil)))), .arr .str, .map (.int .i64) .str], [0], (.cons (.ref 0) .nil)⟩

theorem lendI {ob : List AO} {x : AV} {Z : List Nat} {y : Int × List Nat} (e : lendV ob (.int .i64) x Z = some y) : y.2 = Z ∧ x = .int .i64 y.1 := by
  unfold lendV at e
  split at e
  · rw [Option.bind_eq_some_iff] at e
    obtain ⟨⟨d, r, Z'⟩, h1, h2⟩ := e
    cases r with
    | cons _ _ => cases h2
    | nil =>
      simp only [Option.some.injEq] at h2
      subst h2
      cases x <;> simp [AV.cells, lend] at h1
      all_goals first | (rename_i cs; cases cs <;> simp [lend] at h1; done) | skip
      all_goals first | (obtain ⟨rfl, rfl, rfl⟩ := h1; exact ⟨rfl, rfl⟩) | (simp_all [AV.isAgg, Ty.isAgg]; done)
  · cases e

theorem decL_consI {objs : List OT} {ob : List AO} {a b : Sh} {cs : List AV} {acc : Acc} {y : (Sh.cons a b).D × List AV × Acc} (h : decL objs ob (.cons a b) cs acc = some y) :
    ∃ y1 y2, decL objs ob a cs acc = some y1 ∧ decL objs ob b y1.2.1 y1.2.2 = some y2 ∧ y = (PD.mk a.u b.u y1.1 y2.1, y2.2.1, y2.2.2) := by
  cases cs <;> (simp only [decL, Option.bind_eq_some_iff] at h; obtain ⟨y1, h1, y2, h2, h3⟩ := h; exact ⟨y1, y2, h1, h2, (Option.some.inj h3).symm⟩)
theorem decL_refI {objs : List OT} {ob : List AO} {i : Nat} {cs : List AV} {acc : Acc} {y : (Sh.ref i).D × List AV × Acc} (h : decL objs ob (.ref i) cs acc = some y) :
    ∃ c r o s acc', cs = c :: r ∧ objs[i]? = some o ∧ refSrc o c = some s ∧ acc.add i s = some acc' ∧ y = ((), r, acc') := by
  cases cs with
  | nil => simp [decL] at h
  | cons c r =>
    simp only [decL] at h
    split at h
    · rename_i o ho
      simp only [Option.bind_eq_some_iff] at h
      obtain ⟨s, h1, acc', h2, h3⟩ := h
      exact ⟨c, r, o, s, acc', rfl, ho, h1, h2, (Option.some.inj h3).symm⟩
    · cases h
theorem decL_vI {objs : List OT} {ob : List AO} {cs : List AV} {acc : Acc} {y : Int × List AV × Acc} (h : decL objs ob (.v (.int .i64)) cs acc = some y) :
    ∃ n r, cs = .int .i64 n :: r ∧ y = (n, r, acc) := by
  cases cs with
  | nil => simp [decL] at h
  | cons c r =>
    simp only [decL, Option.bind_eq_some_iff] at h
    obtain ⟨q, h1, h2⟩ := h
    obtain ⟨q1, q2⟩ := lendI h1
    refine ⟨q.1, r, by rw [q2], ?_⟩
    rw [← Option.some.inj h2, q1]
theorem decL_nilI {objs : List OT} {ob : List AO} {cs : List AV} {acc : Acc} {y : Unit × List AV × Acc} (h : decL objs ob .nil cs acc = some y) : y = ((), cs, acc) := by
  cases cs <;> exact (Option.some.inj h).symm
theorem decO_arrI {objs : List OT} {ob : List AO} {T : Ty} {i : Nat} {acc : Acc} {y : List T.D × Acc} (h : decO objs ob (.arr T) i acc = some y) : y.2 = acc := by
  simp only [decO] at h
  split at h
  · rw [Option.bind_eq_some_iff] at h
    obtain ⟨xs, _, h2⟩ := h
    rw [← Option.some.inj h2]
  · rw [Option.bind_eq_some_iff] at h
    obtain ⟨xs, _, h2⟩ := h
    rw [← Option.some.inj h2]
  · split at h
    · rw [← Option.some.inj h]
    · cases h
  · cases h
theorem decO_mapI {objs : List OT} {ob : List AO} {K V : Ty} {i j : Nat} {acc : Acc} {y : List (K.D × V.D) × Acc} (hs : acc.src[i]? = some (some (.obj j))) (h : decO objs ob (.map K V) i acc = some y) : y.2 = acc ∧ ob.getD j .dead = .map K V y.1 := by
  simp only [decO, hs] at h
  cases hm : ob.getD j .dead <;> rw [hm] at h <;> try (simp at h; done)
  rename_i K' V' es
  simp only at h
  split at h
  · rename_i hkv
    obtain ⟨rfl, rfl⟩ := hkv
    rw [← Option.some.inj h]
    exact ⟨rfl, rfl⟩
  · cases h

theorem image_read {args : List AV} {ob : List AO} {x : slab_Q.ins.D} {acc : Acc} {js : List Nat} (h : slab_Q.ins.readIn args ob = some (x, acc)) (hjs : jsOf acc.src = some js) :
    ∃ jb jf jm, args = [.ptr jb 0 0] ∧ ob.getD jb .dead = .box [.slw jf, .map jm, .int .i64 (x.1.1 : Int), .int .i64 (x.1.2 : Int)] ∧ ob.getD jf .dead = .arr .str x.2.1 ∧ ob.getD jm .dead = .map (.int .i64) .str x.2.2 ∧ js = [jb, jf, jm] ∧ acc.gone = [] := by
  unfold Spec.readIn Spec.read at h
  rw [Option.bind_eq_some_iff] at h
  obtain ⟨⟨d, rest, a1⟩, h1, h2⟩ := h
  have p1 : ∃ jb, args = [.ptr jb 0 0] ∧ a1 = ⟨[some (.obj jb), none, none], [jb], []⟩ := by
    cases rest with
    | cons _ _ => cases h2
    | nil =>
      cases args with
      | nil => simp [slab_Q.ins, decL] at h1
      | cons c r =>
        simp only [slab_Q.ins, decL, Option.bind_eq_some_iff] at h1
        obtain ⟨u, hu, z, hz, he⟩ := h1
        simp only [List.getElem?_cons_zero, Option.bind_eq_some_iff] at hu
        obtain ⟨s, hs, acc', hacc, he4⟩ := hu
        cases c <;> try (simp [refSrc] at hs; done)
        rename_i j i sub
        cases i <;> cases sub <;> try (simp [refSrc] at hs; done)
        simp only [refSrc, Option.some.injEq] at hs
        subst hs
        simp [Acc.add, Whence.j, notIn, List.replicate] at hacc
        subst hacc
        simp only [Option.some.injEq] at he4
        subst he4
        cases r with
        | cons _ _ =>
          simp only [decL, Option.some.injEq] at hz
          subst hz
          exact absurd (congrArg (fun t => t.2.1) (Option.some.inj he)) (by simp)
        | nil =>
          simp only [decL, Option.some.injEq] at hz
          subst hz
          exact ⟨j, rfl, (congrArg (fun t => t.2.2) (Option.some.inj he)).symm⟩
  obtain ⟨jb, rfl, rfl⟩ := p1
  cases rest with
  | cons _ _ => cases h2
  | nil =>
    simp only [Option.bind_eq_some_iff] at h2
    obtain ⟨⟨d2, a2⟩, h3, h4⟩ := h2
    simp only [slab_Q.ins, decOs, Option.bind_eq_some_iff] at h3
    obtain ⟨⟨d3, a3⟩, h5, ⟨d4, a4⟩, ⟨⟨d5, a5⟩, h7, ⟨d6, a6⟩, ⟨⟨d7, a7⟩, h10, ⟨d8, a8⟩, h11, h12⟩, h9⟩, h6⟩ := h3
    simp only [decO, List.getElem?_cons_zero] at h5
    cases hb : ob.getD jb .dead <;> rw [hb] at h5 <;> try (simp at h5; done)
    rename_i cs
    simp only [Option.bind_eq_some_iff] at h5
    obtain ⟨⟨e1, e2, e3⟩, g1, g2⟩ := h5
    obtain ⟨y1, y2, k1, k2, k3⟩ := decL_consI g1
    obtain ⟨c1, r1, o1, s1, acc1, rfl, ho1, hs1, hadd1, rfl⟩ := decL_refI k1
    obtain ⟨y3, y4, k4, k5, rfl⟩ := decL_consI k2
    obtain ⟨c2, r2, o2, s2, acc2, hr1, ho2, hs2, hadd2, rfl⟩ := decL_refI k4
    obtain ⟨y5, y6, k6, k7, rfl⟩ := decL_consI k5
    obtain ⟨n1, r3, hr2, rfl⟩ := decL_vI k6
    obtain ⟨y7, y8, k8, k9, rfl⟩ := decL_consI k7
    obtain ⟨n2, r4, hr3, rfl⟩ := decL_vI k8
    have k10 := decL_nilI k9
    subst k10
    simp only at hr1 hr2 hr3
    subst hr3
    subst hr2
    subst hr1
    cases r4 with
    | cons _ _ => rw [k3] at g2; cases g2
    | nil =>
      simp only [List.getElem?_cons_succ, List.getElem?_cons_zero, Option.some.injEq] at ho1 ho2
      subst ho1
      subst ho2
      cases c2 <;> try (simp [refSrc] at hs2; done)
      rename_i jm
      simp only [refSrc, Option.some.injEq] at hs2
      subst hs2
      rw [k3] at g2
      have g3 := Option.some.inj g2
      have ea3 : a3 = acc2 := (congrArg Prod.snd g3).symm
      have ed3 := congrArg Prod.fst g3
      have ea5 := decO_arrI h7
      have hsrc1 : ∃ q, acc1.src = [some (.obj jb), some s1, none] ∧ acc1.gone = q := by
        simp only [Acc.add, List.getElem?_cons_succ, List.getElem?_cons_zero] at hadd1
        split at hadd1
        · rw [← Option.some.inj hadd1]; exact ⟨_, rfl, rfl⟩
        · split at hadd1
          · rw [← Option.some.inj hadd1]; exact ⟨_, rfl, rfl⟩
          · cases hadd1
      obtain ⟨_, hsrc1, _⟩ := hsrc1
      have hgone1 : acc1.gone = [] := by
        simp only [Acc.add, List.getElem?_cons_succ, List.getElem?_cons_zero] at hadd1
        split at hadd1
        · rw [← Option.some.inj hadd1]
        · split at hadd1
          · rw [← Option.some.inj hadd1]
          · cases hadd1
      simp only at hadd2
      have hsrc2 : acc2.src = [some (.obj jb), some s1, some (.obj jm)] ∧ acc2.gone = [] := by
        simp only [Acc.add, hsrc1, List.getElem?_cons_succ, List.getElem?_cons_zero, Whence.j] at hadd2
        split at hadd2
        · rw [← Option.some.inj hadd2]; exact ⟨rfl, hgone1⟩
        · cases hadd2
      simp only at ea5 h10 h11 h12 h9 h6
      have ea5' : a5 = acc2 := by rw [← ea3]; exact ea5
      obtain ⟨ea7, hmp⟩ := decO_mapI (j := jm) (by rw [ea5', hsrc2.1]; rfl) h10
      have ea8 : a8 = a7 := (congrArg Prod.snd (Option.some.inj h11)).symm
      have ea6 : a6 = a8 := (congrArg Prod.snd (Option.some.inj h12)).symm
      have ea4 : a4 = a6 := (congrArg Prod.snd (Option.some.inj h9)).symm
      have ea2 : a2 = a4 := (congrArg Prod.snd (Option.some.inj h6)).symm
      simp only at ea7
      have ea2' : a2 = acc2 := by rw [ea2, ea4, ea6, ea8, ea7, ea5']
      split at h4
      · have h5 := Option.some.inj h4
        have hacc : acc = acc2 := by rw [← ea2']; exact (congrArg Prod.snd h5).symm
        have hx := congrArg Prod.fst h5
        rw [hacc, hsrc2.1] at hjs
        cases s1 with
        | part _ _ _ => simp [jsOf] at hjs
        | empty => simp [jsOf] at hjs
        | obj jf =>
          simp only [jsOf, Option.bind_some, Option.some.injEq] at hjs
          subst hjs
          cases c1 <;> try (simp [refSrc] at hs1; done)
          rename_i jf'
          simp only [refSrc, Option.some.injEq, Whence.obj.injEq] at hs1
          subst hs1
          simp only [decO, ea3, hsrc2.1, List.getElem?_cons_succ, List.getElem?_cons_zero, Option.bind_eq_some_iff] at h7
          obtain ⟨xs, hxs, he7⟩ := h7
          have ed5 : xs = d5 := congrArg Prod.fst (Option.some.inj he7)
          have harr : ob.getD jf' .dead = .arr .str xs := by
            simp only [listOf] at hxs
            cases hm : ob.getD jf' .dead <;> rw [hm] at hxs <;> try (simp at hxs; done)
            simp only at hxs
            split at hxs
            · rename_i hT
              subst hT
              rw [← Option.some.inj hxs]; rfl
            · cases hxs
          have ed6 := congrArg Prod.fst (Option.some.inj h12)
          have ed4 := congrArg Prod.fst (Option.some.inj h9)
          have ed2 := congrArg Prod.fst (Option.some.inj h6)
          dsimp only at hx ed2 ed3 ed4 ed6
          refine ⟨jb, jf', jm, rfl, ?_, ?_, ?_, rfl, by rw [hacc]; exact hsrc2.2⟩
          · rw [hb, ← hx, ← ed2, ← ed3]; rfl
          · rw [harr, ed5, ← hx, ← ed2, ← ed4]; rfl
          · rw [hmp, ← hx, ← ed2, ← ed4, ← ed6]; rfl
      · cases h4

theorem setI_same {ob : List AO} {j : Nat} {o : AO} (h : ob.getD j .dead = o) : ob.set j o = ob := by
  by_cases hj : j < ob.length
  · have e : ob[j] = o := by rw [← h]; simp [List.getD, hj]
    rw [← e, List.set_getElem_self]
  · exact List.set_eq_of_length_le (by omega)

/-- What hands back a slab as it was leaves all objects as they are. -/
theorem slab_quiet {n m : Nat} {is os : List Nat} {so : Sh}
    (f : (⟨n, 0, [.box (.cons (.ref 1) (.cons (.ref 2) (.cons (.v (.int .i64)) (.cons (.v (.int .i64)) .nil)))), .arr .str, .map (.int .i64) .str], is, (.cons (.ref 0) .nil)⟩ : Spec).D →
      Option (OutD [⟨m, 3, [.box (.cons (.ref 1) (.cons (.ref 2) (.cons (.v (.int .i64)) (.cons (.v (.int .i64)) .nil)))), .arr .str, .map (.int .i64) .str], os, so⟩]))
    (h : ∀ x y, f x = some y → Spec.objs_ ⟨m, 3, [.box (.cons (.ref 1) (.cons (.ref 2) (.cons (.v (.int .i64)) (.cons (.v (.int .i64)) .nil)))), .arr .str, .map (.int .i64) .str], os, so⟩ y = x) :
    FunQuiet (mkFun ⟨n, 0, [.box (.cons (.ref 1) (.cons (.ref 2) (.cons (.v (.int .i64)) (.cons (.v (.int .i64)) .nil)))), .arr .str, .map (.int .i64) .str], is, (.cons (.ref 0) .nil)⟩
      [⟨m, 3, [.box (.cons (.ref 1) (.cons (.ref 2) (.cons (.v (.int .i64)) (.cons (.v (.int .i64)) .nil)))), .arr .str, .map (.int .i64) .str], os, so⟩] f) := by
  intro ρ args ob k
  unfold mkFun
  cases hr : Spec.readIn ⟨n, 0, [.box (.cons (.ref 1) (.cons (.ref 2) (.cons (.v (.int .i64)) (.cons (.v (.int .i64)) .nil)))), .arr .str, .map (.int .i64) .str], is, (.cons (.ref 0) .nil)⟩ args ob with
  | none => rfl
  | some x =>
    obtain ⟨x, acc⟩ := x
    simp only [Option.bind_some]
    cases hj : jsOf acc.src with
    | none => rfl
    | some js =>
      simp only [Option.bind_some]
      split
      · cases hf : f x with
        | none => rfl
        | some y =>
          obtain ⟨jb, jf, jm, rfl, hob, hof, hom, rfl, hgone⟩ := image_read (x := x) (acc := acc) (js := js) hr hj
          have hy := h x y hf
          have hset : setAll ob [jb, jf, jm] (encOs slab_Q.ins.objs (newIdx [jb, jf, jm] ob.length) slab_Q.ins.objs (Spec.objs_ ⟨m, 3, [.box (.cons (.ref 1) (.cons (.ref 2) (.cons (.v (.int .i64)) (.cons (.v (.int .i64)) .nil)))), .arr .str, .map (.int .i64) .str], os, so⟩ y)) = ob := by
            rw [hy]
            show (((ob.set jb (.box [.slw jf, .map jm, .int .i64 (x.1.1 : Int), .int .i64 (x.1.2 : Int)])).set jf (.arr .str x.2.1)).set jm (.map (.int .i64) .str x.2.2)) ++ [] = ob
            rw [setI_same hob, setI_same hof, setI_same hom, List.append_nil]
          exact congrArg (k _) hset
      · rfl
end Go.Proofs.YtlbammfnkphajaaGreatDoor.Abs.Sq
