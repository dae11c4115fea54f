/- (*slab.Slab).Image: what the abstract machine asks. -/
import Derived.Test.YtiodpeekbeahlaaGreatDoorImage
namespace Go.Proofs.YtiodpeekbeahlaaGreatDoor.Abs
open Go Go.Proofs Go.RowKit

abbrev SlabSh : Sh := .cons (.ref 1) (.cons (.ref 2) (.cons (.v (.int .i64)) (.cons (.v (.int .i64)) .nil)))
abbrev SlabO : List OT := [.box SlabSh, .arr .str, .map (.int .i64) .str]

/-- The image: what is loose is laid over what is firm. -/
def imageS (xs : List (List UInt8)) (es : List (Int × List UInt8)) : List (List UInt8) := xs.mapIdx fun i x => (mget (K := .int .i64) (V := .str) es (i : Int)).getD x

def imageOk (xs : List (List UInt8)) (es : List (Int × List UInt8)) : Prop := xs.length ≤ 1000000 ∧ es.all (fun e => decide (0 ≤ e.1) && decide (e.1 < (xs.length : Int))) = true
instance (xs : List (List UInt8)) (es : List (Int × List UInt8)) : Decidable (imageOk xs es) := by unfold imageOk; infer_instance

def slab_Image : (Int × Int) × List (List UInt8) × List (Int × List UInt8) → Option (((Int × Int) × List (List UInt8) × List (Int × List UInt8)) × List (List UInt8)) := fun x =>
  if imageOk x.2.1 x.2.2 then some (x, imageS x.2.1 x.2.2) else none
def slab_Image.ins : Spec := ⟨28, 0, [.box (.cons (.ref 1) (.cons (.ref 2) (.cons (.v (.int .i64)) (.cons (.v (.int .i64)) .nil)))), .arr .str, .map (.int .i64) .str], [0], (.cons (.ref 0) .nil)⟩
def slab_Image.outs : List Spec := [⟨28, 3, [.box (.cons (.ref 1) (.cons (.ref 2) (.cons (.v (.int .i64)) (.cons (.v (.int .i64)) .nil)))), .arr .str, .map (.int .i64) .str], [2], (.cons (.v (.sl .str)) .nil)⟩]
noncomputable def slab_Image.c : Callee' := ⟨24, mkFits slab_Image.ins slab_Image.outs, mkFun slab_Image.ins slab_Image.outs slab_Image, mkFun_nat _ _ _⟩

theorem lendI {ob : List AO} {x : AV} {Z : List Nat} {y : Int × List Nat} (e : lendV ob (.int .i64) x Z = some y) : y.2 = Z ∧ x = .int .i64 y.1 := by
  unfold lendV at e
  split at e
  · rw [Option.bind_eq_some_iff] at e
    obtain ⟨⟨d, r, Z'⟩, h1, h2⟩ := e
    cases r with
    | cons _ _ => cases h2
    | nil =>
      simp only [Option.some.injEq] at h2
      subst h2
      cases x <;> simp [AV.cells, lend] at h1
      all_goals first | (rename_i cs; cases cs <;> simp [lend] at h1; done) | skip
      all_goals first | (obtain ⟨rfl, rfl, rfl⟩ := h1; exact ⟨rfl, rfl⟩) | (simp_all [AV.isAgg, Ty.isAgg]; done)
  · cases e

theorem decL_consI {objs : List OT} {ob : List AO} {a b : Sh} {cs : List AV} {acc : Acc} {y : (Sh.cons a b).D × List AV × Acc} (h : decL objs ob (.cons a b) cs acc = some y) :
    ∃ y1 y2, decL objs ob a cs acc = some y1 ∧ decL objs ob b y1.2.1 y1.2.2 = some y2 ∧ y = (PD.mk a.u b.u y1.1 y2.1, y2.2.1, y2.2.2) := by
  cases cs <;> (simp only [decL, Option.bind_eq_some_iff] at h; obtain ⟨y1, h1, y2, h2, h3⟩ := h; exact ⟨y1, y2, h1, h2, (Option.some.inj h3).symm⟩)
theorem decL_refI {objs : List OT} {ob : List AO} {i : Nat} {cs : List AV} {acc : Acc} {y : (Sh.ref i).D × List AV × Acc} (h : decL objs ob (.ref i) cs acc = some y) :
    ∃ c r o s acc', cs = c :: r ∧ objs[i]? = some o ∧ refSrc o c = some s ∧ acc.add i s = some acc' ∧ y = ((), r, acc') := by
  cases cs with
  | nil => simp [decL] at h
  | cons c r =>
    simp only [decL] at h
    split at h
    · rename_i o ho
      simp only [Option.bind_eq_some_iff] at h
      obtain ⟨s, h1, acc', h2, h3⟩ := h
      exact ⟨c, r, o, s, acc', rfl, ho, h1, h2, (Option.some.inj h3).symm⟩
    · cases h
theorem decL_vI {objs : List OT} {ob : List AO} {cs : List AV} {acc : Acc} {y : Int × List AV × Acc} (h : decL objs ob (.v (.int .i64)) cs acc = some y) :
    ∃ n r, cs = .int .i64 n :: r ∧ y = (n, r, acc) := by
  cases cs with
  | nil => simp [decL] at h
  | cons c r =>
    simp only [decL, Option.bind_eq_some_iff] at h
    obtain ⟨q, h1, h2⟩ := h
    obtain ⟨q1, q2⟩ := lendI h1
    refine ⟨q.1, r, by rw [q2], ?_⟩
    rw [← Option.some.inj h2, q1]
theorem decL_nilI {objs : List OT} {ob : List AO} {cs : List AV} {acc : Acc} {y : Unit × List AV × Acc} (h : decL objs ob .nil cs acc = some y) : y = ((), cs, acc) := by
  cases cs <;> exact (Option.some.inj h).symm
theorem decO_arrI {objs : List OT} {ob : List AO} {T : Ty} {i : Nat} {acc : Acc} {y : List T.D × Acc} (h : decO objs ob (.arr T) i acc = some y) : y.2 = acc := by
  simp only [decO] at h
  split at h
  · rw [Option.bind_eq_some_iff] at h
    obtain ⟨xs, _, h2⟩ := h
    rw [← Option.some.inj h2]
  · rw [Option.bind_eq_some_iff] at h
    obtain ⟨xs, _, h2⟩ := h
    rw [← Option.some.inj h2]
  · split at h
    · rw [← Option.some.inj h]
    · cases h
  · cases h
theorem decO_mapI {objs : List OT} {ob : List AO} {K V : Ty} {i j : Nat} {acc : Acc} {y : List (K.D × V.D) × Acc} (hs : acc.src[i]? = some (some (.obj j))) (h : decO objs ob (.map K V) i acc = some y) : y.2 = acc ∧ ob.getD j .dead = .map K V y.1 := by
  simp only [decO, hs] at h
  cases hm : ob.getD j .dead <;> rw [hm] at h <;> try (simp at h; done)
  rename_i K' V' es
  simp only at h
  split at h
  · rename_i hkv
    obtain ⟨rfl, rfl⟩ := hkv
    rw [← Option.some.inj h]
    exact ⟨rfl, rfl⟩
  · cases h

theorem image_read {args : List AV} {ob : List AO} {x : slab_Image.ins.D} {acc : Acc} {js : List Nat} (h : slab_Image.ins.readIn args ob = some (x, acc)) (hjs : jsOf acc.src = some js) :
    ∃ jb jf jm, args = [.ptr jb 0 0] ∧ ob.getD jb .dead = .box [.slw jf, .map jm, .int .i64 (x.1.1 : Int), .int .i64 (x.1.2 : Int)] ∧ ob.getD jf .dead = .arr .str x.2.1 ∧ ob.getD jm .dead = .map (.int .i64) .str x.2.2 ∧ js = [jb, jf, jm] ∧ acc.gone = [] := by
  unfold Spec.readIn Spec.read at h
  rw [Option.bind_eq_some_iff] at h
  obtain ⟨⟨d, rest, a1⟩, h1, h2⟩ := h
  have p1 : ∃ jb, args = [.ptr jb 0 0] ∧ a1 = ⟨[some (.obj jb), none, none], [jb], []⟩ := by
    cases rest with
    | cons _ _ => cases h2
    | nil =>
      cases args with
      | nil => simp [slab_Image.ins, decL] at h1
      | cons c r =>
        simp only [slab_Image.ins, decL, Option.bind_eq_some_iff] at h1
        obtain ⟨u, hu, z, hz, he⟩ := h1
        simp only [List.getElem?_cons_zero, Option.bind_eq_some_iff] at hu
        obtain ⟨s, hs, acc', hacc, he4⟩ := hu
        cases c <;> try (simp [refSrc] at hs; done)
        rename_i j i sub
        cases i <;> cases sub <;> try (simp [refSrc] at hs; done)
        simp only [refSrc, Option.some.injEq] at hs
        subst hs
        simp [Acc.add, Whence.j, notIn, List.replicate] at hacc
        subst hacc
        simp only [Option.some.injEq] at he4
        subst he4
        cases r with
        | cons _ _ =>
          simp only [decL, Option.some.injEq] at hz
          subst hz
          exact absurd (congrArg (fun t => t.2.1) (Option.some.inj he)) (by simp)
        | nil =>
          simp only [decL, Option.some.injEq] at hz
          subst hz
          exact ⟨j, rfl, (congrArg (fun t => t.2.2) (Option.some.inj he)).symm⟩
  obtain ⟨jb, rfl, rfl⟩ := p1
  cases rest with
  | cons _ _ => cases h2
  | nil =>
    simp only [Option.bind_eq_some_iff] at h2
    obtain ⟨⟨d2, a2⟩, h3, h4⟩ := h2
    simp only [slab_Image.ins, decOs, Option.bind_eq_some_iff] at h3
    obtain ⟨⟨d3, a3⟩, h5, ⟨d4, a4⟩, ⟨⟨d5, a5⟩, h7, ⟨d6, a6⟩, ⟨⟨d7, a7⟩, h10, ⟨d8, a8⟩, h11, h12⟩, h9⟩, h6⟩ := h3
    simp only [decO, List.getElem?_cons_zero] at h5
    cases hb : ob.getD jb .dead <;> rw [hb] at h5 <;> try (simp at h5; done)
    rename_i cs
    simp only [Option.bind_eq_some_iff] at h5
    obtain ⟨⟨e1, e2, e3⟩, g1, g2⟩ := h5
    obtain ⟨y1, y2, k1, k2, k3⟩ := decL_consI g1
    obtain ⟨c1, r1, o1, s1, acc1, rfl, ho1, hs1, hadd1, rfl⟩ := decL_refI k1
    obtain ⟨y3, y4, k4, k5, rfl⟩ := decL_consI k2
    obtain ⟨c2, r2, o2, s2, acc2, hr1, ho2, hs2, hadd2, rfl⟩ := decL_refI k4
    obtain ⟨y5, y6, k6, k7, rfl⟩ := decL_consI k5
    obtain ⟨n1, r3, hr2, rfl⟩ := decL_vI k6
    obtain ⟨y7, y8, k8, k9, rfl⟩ := decL_consI k7
    obtain ⟨n2, r4, hr3, rfl⟩ := decL_vI k8
    have k10 := decL_nilI k9
    subst k10
    simp only at hr1 hr2 hr3
    subst hr3
    subst hr2
    subst hr1
    cases r4 with
    | cons _ _ => rw [k3] at g2; cases g2
    | nil =>
      simp only [List.getElem?_cons_succ, List.getElem?_cons_zero, Option.some.injEq] at ho1 ho2
      subst ho1
      subst ho2
      cases c2 <;> try (simp [refSrc] at hs2; done)
      rename_i jm
      simp only [refSrc, Option.some.injEq] at hs2
      subst hs2
      rw [k3] at g2
      have g3 := Option.some.inj g2
      have ea3 : a3 = acc2 := (congrArg Prod.snd g3).symm
      have ed3 := congrArg Prod.fst g3
      have ea5 := decO_arrI h7
      have hsrc1 : ∃ q, acc1.src = [some (.obj jb), some s1, none] ∧ acc1.gone = q := by
        simp only [Acc.add, List.getElem?_cons_succ, List.getElem?_cons_zero] at hadd1
        split at hadd1
        · rw [← Option.some.inj hadd1]; exact ⟨_, rfl, rfl⟩
        · split at hadd1
          · rw [← Option.some.inj hadd1]; exact ⟨_, rfl, rfl⟩
          · cases hadd1
      obtain ⟨_, hsrc1, _⟩ := hsrc1
      have hgone1 : acc1.gone = [] := by
        simp only [Acc.add, List.getElem?_cons_succ, List.getElem?_cons_zero] at hadd1
        split at hadd1
        · rw [← Option.some.inj hadd1]
        · split at hadd1
          · rw [← Option.some.inj hadd1]
          · cases hadd1
      simp only at hadd2
      have hsrc2 : acc2.src = [some (.obj jb), some s1, some (.obj jm)] ∧ acc2.gone = [] := by
        simp only [Acc.add, hsrc1, List.getElem?_cons_succ, List.getElem?_cons_zero, Whence.j] at hadd2
        split at hadd2
        · rw [← Option.some.inj hadd2]; exact ⟨rfl, hgone1⟩
        · cases hadd2
      simp only at ea5 h10 h11 h12 h9 h6
      have ea5' : a5 = acc2 := by rw [← ea3]; exact ea5
      obtain ⟨ea7, hmp⟩ := decO_mapI (j := jm) (by rw [ea5', hsrc2.1]; rfl) h10
      have ea8 : a8 = a7 := (congrArg Prod.snd (Option.some.inj h11)).symm
      have ea6 : a6 = a8 := (congrArg Prod.snd (Option.some.inj h12)).symm
      have ea4 : a4 = a6 := (congrArg Prod.snd (Option.some.inj h9)).symm
      have ea2 : a2 = a4 := (congrArg Prod.snd (Option.some.inj h6)).symm
      simp only at ea7
      have ea2' : a2 = acc2 := by rw [ea2, ea4, ea6, ea8, ea7, ea5']
      split at h4
      · have h5 := Option.some.inj h4
        have hacc : acc = acc2 := by rw [← ea2']; exact (congrArg Prod.snd h5).symm
        have hx := congrArg Prod.fst h5
        rw [hacc, hsrc2.1] at hjs
        cases s1 with
        | part _ _ _ => simp [jsOf] at hjs
        | empty => simp [jsOf] at hjs
        | obj jf =>
          simp only [jsOf, Option.bind_some, Option.some.injEq] at hjs
          subst hjs
          cases c1 <;> try (simp [refSrc] at hs1; done)
          rename_i jf'
          simp only [refSrc, Option.some.injEq, Whence.obj.injEq] at hs1
          subst hs1
          simp only [decO, ea3, hsrc2.1, List.getElem?_cons_succ, List.getElem?_cons_zero, Option.bind_eq_some_iff] at h7
          obtain ⟨xs, hxs, he7⟩ := h7
          have ed5 : xs = d5 := congrArg Prod.fst (Option.some.inj he7)
          have harr : ob.getD jf' .dead = .arr .str xs := by
            simp only [listOf] at hxs
            cases hm : ob.getD jf' .dead <;> rw [hm] at hxs <;> try (simp at hxs; done)
            simp only at hxs
            split at hxs
            · rename_i hT
              subst hT
              rw [← Option.some.inj hxs]; rfl
            · cases hxs
          have ed6 := congrArg Prod.fst (Option.some.inj h12)
          have ed4 := congrArg Prod.fst (Option.some.inj h9)
          have ed2 := congrArg Prod.fst (Option.some.inj h6)
          dsimp only at hx ed2 ed3 ed4 ed6
          refine ⟨jb, jf', jm, rfl, ?_, ?_, ?_, rfl, by rw [hacc]; exact hsrc2.2⟩
          · rw [hb, ← hx, ← ed2, ← ed3]; rfl
          · rw [harr, ed5, ← hx, ← ed2, ← ed4]; rfl
          · rw [hmp, ← hx, ← ed2, ← ed4, ← ed6]; rfl
      · cases h4

theorem setI_same {ob : List AO} {j : Nat} {o : AO} (h : ob.getD j .dead = o) : ob.set j o = ob := by
  by_cases hj : j < ob.length
  · have e : ob[j] = o := by rw [← h]; simp [List.getD, hj]
    rw [← e, List.set_getElem_self]
  · exact List.set_eq_of_length_le (by omega)

theorem mget_find (es : List (Int × List UInt8)) (i : Int) : mget (K := .int .i64) (V := .str) es i = (es.find? fun e => i == e.1).map (·.2) := rfl

theorem image_core {ρ : Type} {ob : List AO} {k : List AV → List AO → Option ρ} {r : ρ} {Fb : Nat → Prop} {w : World} {G : Gs} {vs : Array Value} (inv : Inv Fb w G ob) {jb jf jm : Nat}
    (hr : RepL (avoid Fb G) w ob.length G [.ptr jb 0 0] vs.toList) (c u : Int) (xs : List (List UInt8)) (es : List (Int × List UInt8))
    (hob : ob.getD jb .dead = .box [.slw jf, .map jm, .int .i64 c, .int .i64 u]) (hof : ob.getD jf .dead = .arr .str xs) (hom : ob.getD jm .dead = .map (.int .i64) .str es) (hok : imageOk xs es)
    (h4' : k [.isl .str (imageS xs es)] ob = some r) :
    Calls Tryz.prog 24 vs w fun e w' => ∃ res ob' G' v, e = .returned v ∧ k res ob' = some r ∧ RepRes (avoid Fb G') w' ob'.length G' res v ∧ Inv Fb w' G' ob' ∧ Trans ob.length w G w' G' ∧ ob.length ≤ ob'.length := by
  obtain ⟨hjb, gb, hgb, ob1⟩ := inv_obj inv hob (by simp)
  obtain ⟨hjf, gf, hgf, of1⟩ := inv_obj inv hof (by simp)
  obtain ⟨hjm, gm, hgm, om1⟩ := inv_obj inv hom (by simp)
  obtain ⟨-, ⟨-, hbase⟩, bb, hbb, C, hrow, hrep⟩ := ob1
  obtain ⟨hfs, -, hfl, hfc, hfn, hfb⟩ := of1
  obtain ⟨bm, ms, clock, hbm, hheap, hst, hsz, hkeys, hvals⟩ := om1
  obtain ⟨hlen, hall⟩ := hok
  have hvs : vs = #[.pointer (some ⟨bb, 0, none⟩)] := by
    obtain ⟨l⟩ := vs
    match l, hr with
    | [], hr => exact hr.elim
    | _ :: _ :: _, hr => exact hr.2.elim
    | [v], hr =>
      obtain ⟨h5, -⟩ := hr
      cases h5 with
      | ptr _ _ _ _ hj hv hp =>
        obtain ⟨_, b2, hb2, rfl⟩ := hp gb hgb
        rw [hbb] at hb2
        cases hb2
        simp [hbase]
  have hc1 : w.cell? ⟨bb, 1, none⟩ = some (.map (some bm)) := by
    have hc0 := hrow.cells 1 (by rw [hbase]; simp)
    rw [hc0]
    have hr0 := hrep 1 (by simp)
    rw [hbase] at hr0
    simp only [List.getD_cons_succ, List.getD_cons_zero, Nat.zero_add] at hr0
    generalize C 1 = c at hr0
    cases hr0 with
    | map _ _ hj hv hp =>
      obtain ⟨b2, hb2, rfl⟩ := hp gm hgm
      rw [hbm] at hb2
      cases hb2
      rfl
  obtain ⟨a, cap, hc0, ha⟩ : ∃ a cap, w.cell? ⟨bb, 0, none⟩ = some (.slice a (xs.map fun s => (⟨s.toArray⟩ : ByteArray)).length cap) ∧ ((xs.map fun s => (⟨s.toArray⟩ : ByteArray)) ≠ [] → ∃ bf of, a = some ⟨bf, of, none⟩ ∧
      ∀ j, j < (xs.map fun s => (⟨s.toArray⟩ : ByteArray)).length → w.cell? ⟨bf, of + j, none⟩ = some (.string ((xs.map fun s => (⟨s.toArray⟩ : ByteArray)).getD j ByteArray.empty))) := by
    have hc0 := hrow.cells 0 (by rw [hbase]; simp)
    have hr0 := hrep 0 (by simp)
    rw [hbase] at hr0
    simp only [List.getD_cons_zero, Nat.zero_add] at hr0
    rw [hc0]
    generalize C 0 = c at hr0
    cases hr0 with
    | slw _ _ hj hv hp =>
      obtain ⟨a, cap, rfl, q1, q2, q3, q4⟩ := hp gf hgf
      refine ⟨a, cap, by rw [List.length_map, ← hfl], fun hne => ?_⟩
      have hpos : 0 < xs.length := List.length_pos_iff.2 (by simpa using hne)
      have hcap : cap ≠ 0 := by omega
      have hq := q4 hcap
      cases hbl : gf.blk with
      | none => have := hfn hbl; omega
      | some bf =>
        obtain ⟨C2, hrow2, hrep2⟩ := hfb bf hbl
        refine ⟨bf, gf.base, by rw [hq]; simp [Gh.addr, hbl], fun j hj => ?_⟩
        rw [List.length_map] at hj
        have hfs1 : gf.size = 1 := hfs
        rw [hrow2.cells (gf.base + j) (by rw [hfs1]; omega)]
        have hr2 := hrep2 j 0 hj (by decide)
        have hsz1 : Ty.size .str = 1 := rfl
        rw [hsz1, Nat.mul_one, Nat.add_zero] at hr2
        have hcv : ∃ s, cellsAV .str (xs.getD j (Ty.dflt .str)) = [.str s] ∧ s = xs.getD j [] := ⟨_, rfl, rfl⟩
        obtain ⟨s, e1, e2⟩ := hcv
        rw [e1] at hr2
        simp only [List.getD_cons_zero] at hr2
        generalize C2 (gf.base + j) = c at hr2
        cases hr2
        simp [List.getD, hj, e2]
  have hk : ∀ e ∈ ms.toList, ∃ n : Nat, n < (xs.map fun s => (⟨s.toArray⟩ : ByteArray)).length ∧ e.key = .int .i64 (n : Int) ∧ ∃ s, e.val = .string s := by
    intro e he
    obtain ⟨i, hi, rfl⟩ := List.getElem_of_mem he
    have hi' : i < ms.size := by simpa using hi
    have hi2 : i < es.length := by omega
    have hg : ms.toList[i] = ms.getD i default := by simp [Array.getD, hi']
    have k1 := hkeys i hi2
    have k2 := hvals i hi2
    have hm : es.getD i (Ty.dflt (.int .i64), Ty.dflt .str) ∈ es := by rw [show es.getD i (Ty.dflt (.int .i64), Ty.dflt .str) = es[i] by simp [List.getD, hi2]]; exact List.getElem_mem _
    have h5 := List.all_eq_true.1 hall _ hm
    simp only [Bool.and_eq_true, decide_eq_true_eq] at h5
    rw [hg]
    generalize (ms.getD i default).key = kk at k1
    generalize (ms.getD i default).val = vv at k2
    generalize es.getD i (Ty.dflt (.int .i64), Ty.dflt .str) = q at k1 k2 h5
    obtain ⟨q1, q2⟩ := q
    cases k1
    cases k2
    refine ⟨q1.toNat, by rw [List.length_map]; omega, ?_, _, rfl⟩
    simp only at h5
    rw [Int.toNat_of_nonneg h5.1]
  rw [hvs]
  refine (image_walk w bb a cap _ bm ms clock (by rw [List.length_map]; exact hlen) hc0 hc1 ha hheap hst hk).mono ?_
  rintro e w' ⟨v', ys, rfl, ⟨seen, hs1, hs2, hs3⟩, hrow', hB⟩
  obtain ⟨i1, i2⟩ := inv.grow (w' := w') hB.os hB.tape hB.output hB.size hB.block
  refine ⟨[.isl .str (imageS xs es)], ob, G, v', rfl, h4', ?_, i1, i2, Nat.le_refl _⟩
  show Rep _ _ _ _ (.isl .str (imageS xs es)) v'
  rw [List.length_map] at hs2 hs3 hrow'
  have hil : (imageS xs es).length = xs.length := by unfold imageS; simp
  have hys : ∀ i, i < xs.length → ys.getD i ByteArray.empty = ⟨((imageS xs es).getD i []).toArray⟩ := by
    intro i hi
    have him : (imageS xs es).getD i [] = (mget (K := .int .i64) (V := .str) es (i : Int)).getD (xs.getD i []) := by
      unfold imageS
      simp [List.getD, hi]
    rw [him, mget_find]
    have hgk : ∀ q (hq : q < es.length), ∃ (h : q < ms.toList.length), (ms.toList[q]).key = .int .i64 (es[q].1 : Int) ∧ (ms.toList[q]).val = .string ⟨(es[q].2).toArray⟩ := by
      intro q hq
      have h : q < ms.toList.length := by rw [Array.length_toList]; omega
      have hi' : q < ms.size := by omega
      have hg : ms.toList[q] = ms.getD q default := by simp [Array.getD, hi']
      have k1 := hkeys q hq
      have k2 := hvals q hq
      have hgd : es.getD q (Ty.dflt (.int .i64), Ty.dflt .str) = es[q] := by simp [List.getD, hq]
      rw [hgd] at k1 k2
      refine ⟨h, ?_, ?_⟩
      · rw [hg]
        generalize (ms.getD q default).key = kk at k1
        cases k1; rfl
      · rw [hg]
        generalize (ms.getD q default).val = vv at k2
        cases k2; rfl
    rcases hs3 i hi with ⟨e1, m1, m2, m3, m4⟩ | ⟨m1, m2⟩
    · obtain ⟨q, hq, rfl⟩ := List.getElem_of_mem m1
      have hq2 : q < es.length := by rw [Array.length_toList] at hq; omega
      obtain ⟨_, g1, g2⟩ := hgk q hq2
      rw [m3] at g1
      rw [m4] at g2
      simp only [Value.int.injEq, true_and] at g1
      simp only [Value.string.injEq] at g2
      rw [g2]
      cases hf : es.find? fun e => (i : Int) == e.1 with
      | none =>
        have := List.find?_eq_none.1 hf es[q] (List.getElem_mem _)
        rw [← g1] at this
        simp at this
      | some e2 =>
        have hm2 := List.mem_of_find?_eq_some hf
        have he2 := List.find?_some hf
        obtain ⟨q2, hq3, rfl⟩ := List.getElem_of_mem hm2
        obtain ⟨hq4, g3, g4⟩ := hgk q2 hq3
        have hkk : (ms.toList[q2]).key = (ms.toList[q]).key := by rw [g3, m3]; simp at he2; rw [he2]
        have hqq : q2 = q := by
          have hp := hst.2.2
          unfold List.Nodup at hp
          rw [List.pairwise_map, List.pairwise_iff_getElem] at hp
          rcases Nat.lt_trichotomy q2 q with z | z | z
          · exact absurd hkk (hp q2 q hq4 hq z)
          · exact z
          · exact absurd hkk.symm (hp q q2 hq hq4 z)
        subst hqq
        rfl
    · rw [m2]
      cases hf : es.find? fun e => (i : Int) == e.1 with
      | none => simp [List.getD, hi]
      | some e2 =>
        have hm2 := List.mem_of_find?_eq_some hf
        have he2 := List.find?_some hf
        obtain ⟨q2, hq3, rfl⟩ := List.getElem_of_mem hm2
        obtain ⟨hq4, g3, g4⟩ := hgk q2 hq3
        exact absurd (by rw [g3]; simp at he2; rw [he2]) (m1 _ (List.getElem_mem hq4) (hs1 _ (List.getElem_mem hq4)))
  rcases hrow'.2 with ⟨rfl, hz⟩ | ⟨g, cap', cur, rfl, hg0, hg, hcap, -, -, htake⟩
  · have : imageS xs es = [] := List.eq_nil_of_length_eq_zero (by omega)
    rw [this]
    exact .islE _ _ _
  · by_cases hz : xs.length = 0
    · have : imageS xs es = [] := List.eq_nil_of_length_eq_zero (by omega)
      rw [this, hz]
      exact .islE _ _ _
    · have hcells : ∀ m, m < xs.length → w'.cell? ⟨g, m, none⟩ = some (.string ⟨((imageS xs es).getD m []).toArray⟩) := by
        intro m hm
        have h5 := congrArg (fun l => l[m]?) htake
        simp only [Nat.mul_one, List.getElem?_take, hm, if_true, List.getElem?_map, Array.getElem?_toList] at h5
        have hml : m < ys.length := by omega
        rw [List.getElem?_eq_getElem hml] at h5
        have h6 := hys m hm
        rw [show ys.getD m ByteArray.empty = ys[m] by simp [List.getD, hml]] at h6
        simp only [World.cell?, hg]
        rw [h5, ← h6]
        rfl
      rw [← hil]
      refine .isl .str _ g 0 cap' (fun m => .string ⟨((imageS xs es).getD m []).toArray⟩) (by intro e; rw [e] at hil; exact hz hil.symm) (by decide) (by omega) ?_ (fun m hm => ?_) (fun i j hi hj => ?_)
      · rintro (hF2 | ⟨j, g2, hj1, hj2⟩)
        · have := inv.old g hF2; omega
        · have := (inv.free j g2 g hj1 hj2).2; omega
      · have := hcells m (by simp [Ty.size] at hm; omega)
        simpa using this
      · have hj0 : j = 0 := by simp [Ty.size] at hj; omega
        subst hj0
        show Rep _ _ _ _ (.str ((imageS xs es).getD i [])) _
        simp only [Ty.size, Nat.mul_one, Nat.add_zero]
        exact .str _

theorem slab_Image.sound : slab_Image.c.ok Tryz.prog := by
  refine ⟨?_, Tryz.f24, _, Tryz.func24, rfl, by decide⟩
  intro ρ args ob k r e Fb w G vs inv hr
  change mkFun slab_Image.ins slab_Image.outs slab_Image ρ args ob k = some r at e
  unfold mkFun at e
  simp only [Option.bind_eq_some_iff] at e
  obtain ⟨⟨x, acc⟩, h1, js, h2, h3⟩ := e
  obtain ⟨jb, jf, jm, rfl, hob, hof, hom, rfl, hgone⟩ := image_read h1 h2
  rw [hgone] at h3
  change (slab_Image x).bind _ = some r at h3
  obtain ⟨y, hy, h4⟩ := Option.bind_eq_some_iff.1 h3
  unfold slab_Image at hy
  split at hy
  · rename_i hc
    simp only [Option.some.injEq] at hy
    subst hy
    have hset : setAll ob [jb, jf, jm] (encOs slab_Image.ins.objs (newIdx [jb, jf, jm] ob.length) slab_Image.ins.objs x) = ob := by
      show (((ob.set jb (.box [.slw jf, .map jm, .int .i64 (x.1.1 : Int), .int .i64 (x.1.2 : Int)])).set jf (.arr .str x.2.1)).set jm (.map (.int .i64) .str x.2.2)) ++ [] = ob
      rw [setI_same hob, setI_same hof, setI_same hom, List.append_nil]
    have h4' : k [.isl .str (imageS x.2.1 x.2.2)] (setAll ob [jb, jf, jm] (encOs slab_Image.ins.objs (newIdx [jb, jf, jm] ob.length) slab_Image.ins.objs x)) = some r := h4
    rw [hset] at h4'
    exact image_core inv hr _ _ _ _ hob hof hom hc h4'
  · cases hy

/-- What hands back a slab as it was leaves all objects as they are. -/
theorem slab_quiet {n m : Nat} {is os : List Nat} {so : Sh}
    (f : (⟨n, 0, [.box (.cons (.ref 1) (.cons (.ref 2) (.cons (.v (.int .i64)) (.cons (.v (.int .i64)) .nil)))), .arr .str, .map (.int .i64) .str], is, (.cons (.ref 0) .nil)⟩ : Spec).D →
      Option (OutD [⟨m, 3, [.box (.cons (.ref 1) (.cons (.ref 2) (.cons (.v (.int .i64)) (.cons (.v (.int .i64)) .nil)))), .arr .str, .map (.int .i64) .str], os, so⟩]))
    (h : ∀ x y, f x = some y → Spec.objs_ ⟨m, 3, [.box (.cons (.ref 1) (.cons (.ref 2) (.cons (.v (.int .i64)) (.cons (.v (.int .i64)) .nil)))), .arr .str, .map (.int .i64) .str], os, so⟩ y = x) :
    FunQuiet (mkFun ⟨n, 0, [.box (.cons (.ref 1) (.cons (.ref 2) (.cons (.v (.int .i64)) (.cons (.v (.int .i64)) .nil)))), .arr .str, .map (.int .i64) .str], is, (.cons (.ref 0) .nil)⟩
      [⟨m, 3, [.box (.cons (.ref 1) (.cons (.ref 2) (.cons (.v (.int .i64)) (.cons (.v (.int .i64)) .nil)))), .arr .str, .map (.int .i64) .str], os, so⟩] f) := by
  intro ρ args ob k
  unfold mkFun
  cases hr : Spec.readIn ⟨n, 0, [.box (.cons (.ref 1) (.cons (.ref 2) (.cons (.v (.int .i64)) (.cons (.v (.int .i64)) .nil)))), .arr .str, .map (.int .i64) .str], is, (.cons (.ref 0) .nil)⟩ args ob with
  | none => rfl
  | some x =>
    obtain ⟨x, acc⟩ := x
    simp only [Option.bind_some]
    cases hj : jsOf acc.src with
    | none => rfl
    | some js =>
      simp only [Option.bind_some]
      split
      · cases hf : f x with
        | none => rfl
        | some y =>
          obtain ⟨jb, jf, jm, rfl, hob, hof, hom, rfl, hgone⟩ := image_read (x := x) (acc := acc) (js := js) hr hj
          have hy := h x y hf
          have hset : setAll ob [jb, jf, jm] (encOs slab_Image.ins.objs (newIdx [jb, jf, jm] ob.length) slab_Image.ins.objs (Spec.objs_ ⟨m, 3, [.box (.cons (.ref 1) (.cons (.ref 2) (.cons (.v (.int .i64)) (.cons (.v (.int .i64)) .nil)))), .arr .str, .map (.int .i64) .str], os, so⟩ y)) = ob := by
            rw [hy]
            show (((ob.set jb (.box [.slw jf, .map jm, .int .i64 (x.1.1 : Int), .int .i64 (x.1.2 : Int)])).set jf (.arr .str x.2.1)).set jm (.map (.int .i64) .str x.2.2)) ++ [] = ob
            rw [setI_same hob, setI_same hof, setI_same hom, List.append_nil]
          exact congrArg (k _) hset
      · rfl

theorem slab_Image.quiet : FunQuiet slab_Image.c.F := slab_quiet (n := 28) (m := 28) (is := [0]) (os := [2]) (so := (.cons (.v (.sl .str)) .nil)) slab_Image fun (x : (Int × Int) × List (List UInt8) × List (Int × List UInt8)) y h => by
  unfold slab_Image at h
  split at h
  · rw [← Option.some.inj h]; rfl
  · cases h
end Go.Proofs.YtiodpeekbeahlaaGreatDoor.Abs
