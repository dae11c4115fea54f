/- slices.Sorted(maps.Keys(m)), keys int: a contract by hand over the library's. -/
import Derived.Test.YtlbammfnkphajaaGreatDoorLayK
import Derived.Test.YtlbammfnkphajaaGreatDoorAbsFn
import Derived.Shelf.SlIterI.Nil
import Derived.Shelf.SortM.Plain
import Derived.Shelf.SortM.SortNone
import Derived.Maps.OwnSet
import Derived.Below
namespace Go.Proofs.YtlbammfnkphajaaGreatDoor.Abs
open Go Go.Proofs Go.RowKit Go.Shelf Go.Maps Go.Sort
open Go.WideElems (Fit)

theorem sortsIn (m : Nat) : AnyZI.SortsIn Tryz.prog sortedA_ren Fence.wide m :=
  ⟨fun blk off cap ss W hH hblk hsz => callsIn_wide.2 (AnyM.slices_Sort_int sortA blk off cap ss W hH hblk hsz),
   fun p cap W => callsIn_wide.2 (AnyM.slices_Sort_int_none sortA p cap W)⟩

/-- Where the maps' values do not matter: whatever they are, they read alike. -/
def anyR (_ : Value) : Option (DataW Unit × List MemPlace) := some (.nil, [])

theorem sorted_at (b Bm : Nat) (es : Array MapEntry) (clock : Nat) (w : World) (hB : w.cell? ⟨Bm, 0, none⟩ = some (.map (some b))) (hb : w.heap[b]? = some (.map es clock)) (hF : Fit Tryz.prog 3 anyR es clock)
    (hmax : Maps.size (.map ((es.toList.map (WideElems.rg Tryz.prog 3 anyR)).foldr DataW.insert [])) ≤ 1000000) :
    Calls Tryz.prog 114 #[.func (.func 158) #[] #[.pointer (some ⟨Bm, 0, none⟩)]] w fun e w' => ∃ (v : Value) (ss : List Int), e = .returned v ∧ ss.Perm (intKeys (.map ((es.toList.map (WideElems.rg Tryz.prog 3 anyR)).foldr DataW.insert []))) ∧
      w'.ownsRow w.heap.size 3 1 v ss.length ((ss.mergeSort (fun x y => decide (x ≤ y))).map encZ) ∧ (v = .slice none 0 0 ↔ ss = []) ∧ Below w.heap.size w w' := by
  refine (callsIn_wide (n := 6)).1 ?_
  have hown := World.ownsMap_of_fit (R := anyR) hb hF (fun _ _ _ h => h)
  have hBm : Bm < w.heap.size := World.block_lt_of_cell? w (a := ⟨Bm, 0, none⟩) hB
  have hseq := AnyZI.keys_gives (ρ := keysA_ren) (P := Tryz.prog) { keysA with } Fence.wide 3 trivial rfl (by omega) Bm b _ _ w hBm hB hown
  exact AnyZI.sorted_in sortedA Fence.wide 6 trivial trivial trivial trivial rfl (by omega) (sortsIn _) (enters_of Tryz.func157 (by kernel_rfl) rfl) 158 #[.pointer (some ⟨Bm, 0, none⟩)] trivial (enters_of Tryz.func158 (by kernel_rfl) rfl) _ _ (by simp only [maxLen]; omega) (by omega) _ hseq

/-! ### Sorted numbers -/

def insI (x : Int) : List Int → List Int
  | [] => [x]
  | y :: l => if x ≤ y then x :: y :: l else y :: insI x l
def isort : List Int → List Int
  | [] => []
  | x :: l => insI x (isort l)
theorem insI_perm (x : Int) : ∀ l, (insI x l).Perm (x :: l)
  | [] => .refl _
  | y :: l => by
    rw [insI]; split
    · exact .refl _
    · exact ((insI_perm x l).cons y).trans (.swap x y l)
theorem isort_perm : ∀ l, (isort l).Perm l
  | [] => .refl _
  | x :: l => (insI_perm x _).trans ((isort_perm l).cons x)
theorem insI_sorted (x : Int) : ∀ l : List Int, l.Pairwise (· ≤ ·) → (insI x l).Pairwise (· ≤ ·)
  | [], _ => by simp [insI]
  | y :: l, h => by
    rw [insI]
    rw [List.pairwise_cons] at h
    split
    · rename_i hxy
      rw [List.pairwise_cons]
      refine ⟨fun z hz => ?_, List.pairwise_cons.2 h⟩
      rcases List.mem_cons.1 hz with rfl | hz
      · exact hxy
      · exact Int.le_trans hxy (h.1 z hz)
    · rename_i hxy
      rw [List.pairwise_cons]
      refine ⟨fun z hz => ?_, insI_sorted x l h.2⟩
      rcases List.mem_cons.1 ((insI_perm x l).mem_iff.1 hz) with rfl | hz
      · omega
      · exact h.1 z hz
theorem isort_sorted : ∀ l, (isort l).Pairwise (· ≤ ·)
  | [] => .nil
  | x :: l => insI_sorted x _ (isort_sorted l)
theorem isort_merge {l l' : List Int} (h : l.Perm l') : isort l = l'.mergeSort (fun x y => decide (x ≤ y)) := by
  have tr : ∀ a b c : Int, decide (a ≤ b) = true → decide (b ≤ c) = true → decide (a ≤ c) = true := fun a b c h1 h2 => by simp only [decide_eq_true_eq] at *; omega
  have to : ∀ a b : Int, (decide (a ≤ b) || decide (b ≤ a)) = true := fun a b => by simp only [Bool.or_eq_true, decide_eq_true_eq]; omega
  refine List.Perm.eq_of_pairwise (le := fun a b => a ≤ b) (fun a b _ _ h1 h2 => by omega) (isort_sorted l) ?_ ((isort_perm l).trans (h.trans (List.mergeSort_perm l' _).symm))
  exact (List.pairwise_mergeSort tr to l').imp fun h => by simpa using h

/-! ### The contract -/

def keyWf (n : Int) : Bool := decide (-9223372036854775808 ≤ n) && decide (n < 9223372036854775808)

def slices_Sorted : List (Int × (.str : Ty).D) → Option (List (Int × (.str : Ty).D) × List Int) := fun es => if es.length ≤ 1000000 ∧ es.all (fun e => keyWf e.1) = true then some (es, isort (es.map (·.1))) else none
def slices_Sorted.ins : Spec := ⟨9, 0, [.box (.cons (.ref 1) .nil), .map (.int .i64) .str], [0], (.cons (.fn (.func 158) .nil (.cons (.ref 0) .nil)) .nil)⟩
def slices_Sorted.outs : List Spec := [⟨9, 2, [.box (.cons (.ref 1) .nil), .map (.int .i64) .str], [2], (.cons (.v (.sl (.int .i64))) .nil)⟩]
noncomputable def slices_Sorted.c : Callee' := ⟨114, mkFits slices_Sorted.ins slices_Sorted.outs, mkFun slices_Sorted.ins slices_Sorted.outs slices_Sorted, mkFun_nat _ _ _⟩

theorem sorted_read {args : List AV} {ob : List AO} {x : slices_Sorted.ins.D} {acc : Acc} (h : slices_Sorted.ins.readIn args ob = some (x, acc)) :
    ∃ jb jm, args = [.fn (.func 158) [] [.ptr jb 0 0]] ∧ ob.getD jb .dead = .box [.map jm] ∧ ob.getD jm .dead = .map (.int .i64) .str x ∧ acc.src = [some (.obj jb), some (.obj jm)] ∧ acc.gone = [] := by
  unfold Spec.readIn Spec.read at h
  rw [Option.bind_eq_some_iff] at h
  obtain ⟨⟨d, rest, a1⟩, h1, h2⟩ := h
  -- the argument
  have p1 : ∃ jb, args = [.fn (.func 158) [] [.ptr jb 0 0]] ∧ a1 = ⟨[some (.obj jb), none], [jb], []⟩ := by
    cases rest with
    | cons _ _ => cases h2
    | nil =>
      cases args with
      | nil => simp [slices_Sorted.ins, decL] at h1
      | cons y r =>
        simp only [slices_Sorted.ins, decL, Option.bind_eq_some_iff] at h1
        obtain ⟨u, hu, z, hz, he⟩ := h1
        cases y <;> try (simp at hu; done)
        rename_i f p q
        simp only at hu
        split at hu
        · rename_i hf
          subst hf
          cases p with
          | cons _ _ => simp [decL] at hu
          | nil =>
            simp only [Option.bind_eq_some_iff] at hu
            obtain ⟨u1, hu1, hu2⟩ := hu
            simp only [Option.some.injEq] at hu1
            subst hu1
            simp only [Option.bind_eq_some_iff] at hu2
            obtain ⟨u3, ⟨u4, hu4, u5, hu5, hu6⟩, hu7⟩ := hu2
            cases q with
            | nil => simp [decL] at hu4
            | cons c q =>
              simp only [decL, List.getElem?_cons_zero, Option.bind_eq_some_iff] at hu4
              obtain ⟨s, hs, acc', hacc, he4⟩ := hu4
              cases c <;> try (simp [refSrc] at hs; done)
              rename_i j i sub
              cases i <;> cases sub <;> try (simp [refSrc] at hs; done)
              simp only [refSrc, Option.some.injEq] at hs
              subst hs
              simp [Acc.add, Whence.j, notIn, List.replicate] at hacc
              subst hacc
              simp only [Option.some.injEq] at he4
              subst he4
              cases q with
              | cons _ _ =>
                simp only [decL, Option.some.injEq] at hu5
                subst hu5
                simp only [Option.some.injEq] at hu6
                subst hu6
                simp at hu7
              | nil =>
                simp only [decL, Option.some.injEq] at hu5
                subst hu5
                simp only [Option.some.injEq] at hu6
                subst hu6
                simp only [Option.some.injEq] at hu7
                subst hu7
                cases r with
                | cons _ _ =>
                  simp only [decL, Option.some.injEq] at hz
                  subst hz
                  exact absurd (congrArg (fun t => t.2.1) (Option.some.inj he)) (by simp)
                | nil =>
                  simp only [decL, Option.some.injEq] at hz
                  subst hz
                  exact ⟨j, rfl, (congrArg (fun t => t.2.2) (Option.some.inj he)).symm⟩
        · cases hu
  obtain ⟨jb, rfl, rfl⟩ := p1
  cases rest with
  | cons _ _ => cases h2
  | nil =>
    simp only [Option.bind_eq_some_iff] at h2
    obtain ⟨⟨d2, a2⟩, h3, h4⟩ := h2
    simp only [slices_Sorted.ins, decOs, Option.bind_eq_some_iff] at h3
    obtain ⟨⟨d3, a3⟩, h5, ⟨d4, a4⟩, ⟨⟨d5, a5⟩, h7, ⟨d6, a6⟩, h8, h9⟩, h6⟩ := h3
    simp only [decO, List.getElem?_cons_zero] at h5
    cases hb : ob.getD jb .dead <;> rw [hb] at h5 <;> try (simp at h5; done)
    rename_i cs
    simp only [Option.bind_eq_some_iff] at h5
    obtain ⟨⟨e1, e2, e3⟩, g1, g2⟩ := h5
    cases cs with
    | nil => simp [decL] at g1
    | cons c cs =>
      simp only [decL, Option.bind_eq_some_iff] at g1
      obtain ⟨⟨f1, f2, f3⟩, k1, ⟨f4, f5, f6⟩, k2, k3⟩ := g1
      simp only [List.getElem?_cons_succ, List.getElem?_cons_zero, Option.bind_eq_some_iff] at k1
      obtain ⟨s, hs, acc', hacc, he⟩ := k1
      cases c <;> try (simp [refSrc] at hs; done)
      rename_i jm
      simp only [refSrc, Option.some.injEq] at hs
      subst hs
      simp only [Acc.add, List.getElem?_cons_succ, List.getElem?_cons_zero, Whence.j, notIn] at hacc
      cases hj : jm == jb <;> rw [hj] at hacc <;> try (simp at hacc; done)
      simp only [Option.some.injEq] at hacc
      subst hacc
      simp only [Option.some.injEq, Prod.mk.injEq] at he
      obtain ⟨-, rfl, rfl⟩ := he
      cases cs with
      | cons _ _ =>
        simp only [Option.some.injEq, Prod.mk.injEq] at k2
        obtain ⟨-, rfl, rfl⟩ := k2
        simp only [Option.some.injEq, Prod.mk.injEq] at k3
        obtain ⟨-, rfl, rfl⟩ := k3
        simp at g2
      | nil =>
        simp only [Option.some.injEq, Prod.mk.injEq] at k2
        obtain ⟨-, rfl, rfl⟩ := k2
        simp only [Option.some.injEq, Prod.mk.injEq] at k3
        obtain ⟨-, rfl, rfl⟩ := k3
        simp only [Option.some.injEq, Prod.mk.injEq] at g2
        obtain ⟨-, rfl⟩ := g2
        simp only [decO, List.set_cons_succ, List.set_cons_zero, List.getElem?_cons_succ, List.getElem?_cons_zero] at h7
        cases hm : ob.getD jm .dead <;> rw [hm] at h7 <;> try (simp at h7; done)
        rename_i K' V' es
        simp only at h7
        split at h7
        · rename_i hkv
          obtain ⟨rfl, rfl⟩ := hkv
          simp only [Option.some.injEq, Prod.mk.injEq] at h7
          obtain ⟨rfl, rfl⟩ := h7
          simp only [Option.some.injEq, Prod.mk.injEq] at h8
          obtain ⟨-, rfl⟩ := h8
          simp only [Option.some.injEq, Prod.mk.injEq] at h9
          obtain ⟨h9a, rfl⟩ := h9
          simp only [Option.some.injEq, Prod.mk.injEq] at h6
          obtain ⟨h6a, rfl⟩ := h6
          have h4' : some ((PD.mk (objsU slices_Sorted.ins.objs) slices_Sorted.ins.vs.u (PD.mk true false d3 d4) d : slices_Sorted.ins.D), (⟨[some (.obj jb), some (.obj jm)], [jm, jb], []⟩ : Acc)) = some (x, acc) := h4
          have hx := congrArg Prod.fst (Option.some.inj h4')
          have ha := congrArg Prod.snd (Option.some.inj h4')
          simp only at hx ha
          exact ⟨jb, jm, rfl, hb, by rw [hm, ← hx, ← h9a]; rfl, by rw [← ha], by rw [← ha]⟩
        · cases h7

theorem setO_same {ob : List AO} {j : Nat} {o : AO} (h : ob.getD j .dead = o) : ob.set j o = ob := by
  by_cases hj : j < ob.length
  · have e : ob[j] = o := by rw [← h]; simp [List.getD, hj]
    rw [← e, List.set_getElem_self]
  · exact List.set_eq_of_length_le (by omega)

theorem map_keys {ms : Array MapEntry} {es : List (Int × (.str : Ty).D)} (hl : ms.size = es.length) (hk : ∀ i, i < es.length → (ms.getD i default).key = .int .i64 (es.getD i (0, (.str : Ty).dflt)).1) (hw : es.all (fun e => keyWf e.1) = true) :
    (∀ x ∈ ms.toList, ∃ y, WideElems.rd Tryz.prog 3 anyR x = some y) ∧ (intKeys (.map ((ms.toList.map (WideElems.rg Tryz.prog 3 anyR)).foldr DataW.insert []))).Perm (es.map (·.1)) := by
  have hrd : ∀ i, i < es.length → WideElems.rd Tryz.prog 3 anyR (ms.getD i default) = some (.int .i64 (es.getD i (0, (.str : Ty).dflt)).1, .nil) := by
    intro i hi
    unfold WideElems.rd
    have hm : es.getD i (0, (.str : Ty).dflt) ∈ es := by rw [show es.getD i (0, (.str : Ty).dflt) = es[i] by simp [List.getD, hi]]; exact List.getElem_mem _
    have h1 := List.all_eq_true.1 hw _ hm
    unfold keyWf at h1
    simp only [Bool.and_eq_true, decide_eq_true_eq] at h1
    have h2 : keyOf Tryz.prog 3 (.int .i64 (es.getD i (0, (.str : Ty).dflt)).1) = some (.int .i64 (es.getD i (0, (.str : Ty).dflt)).1) := Maps.keyOf_int_mk Tryz.underlying3 (by
      have b1 : IntKind.i64.min = -9223372036854775808 := by decide
      have b2 : IntKind.i64.max = 9223372036854775807 := by decide
      simp only [Lit.wf, b1, b2, Bool.and_eq_true, decide_eq_true_eq]
      omega)
    rw [hk i hi, h2]
    rfl
  have hget : ∀ i (h : i < ms.size), ms[i] = ms.getD i default := fun i h => by simp [Array.getD, h]
  constructor
  · intro x hx
    obtain ⟨i, hi, rfl⟩ := List.getElem_of_mem hx
    have hi' : i < ms.size := by simpa using hi
    exact ⟨_, by rw [Array.getElem_toList, hget i hi']; exact hrd i (by omega)⟩
  · have e : (ms.toList.map (WideElems.rg Tryz.prog 3 anyR)).map (fun p => _root_.Go.intOf p.1) = es.map (·.1) := by
      refine List.ext_getElem (by simp [hl]) fun i h1 h2 => ?_
      have hi : i < es.length := by simpa using h2
      rw [List.getElem_map, List.getElem_map, List.getElem_map, Array.getElem_toList, hget i (by omega)]
      unfold WideElems.rg
      rw [hrd i hi]
      simp [_root_.Go.intOf, List.getD, hi]
    rw [← e]
    exact (_root_.Go.WideShapes.sorted_perm _).map _

theorem slices_Sorted.sound : slices_Sorted.c.ok Tryz.prog := by
  refine ⟨?_, Tryz.f114, _, Tryz.func114, rfl, by decide⟩
  intro ρ args ob k r e Fb w G vs inv hr
  change mkFun slices_Sorted.ins slices_Sorted.outs slices_Sorted ρ args ob k = some r at e
  unfold mkFun at e
  simp only [Option.bind_eq_some_iff] at e
  obtain ⟨⟨x, acc⟩, h1, js, h2, h3⟩ := e
  obtain ⟨jb, jm, rfl, hob, hom, hsrc, hgone⟩ := sorted_read h1
  rw [hsrc] at h2
  simp only [jsOf, Option.bind_some, Option.some.injEq] at h2
  subst h2
  rw [hgone] at h3
  change (slices_Sorted x).bind _ = some r at h3
  obtain ⟨y, hy, h4⟩ := Option.bind_eq_some_iff.1 h3
  obtain ⟨hjb, gb, hgb, ob1⟩ := inv_obj inv hob (by simp)
  obtain ⟨hjm, gm, hgm, om1⟩ := inv_obj inv hom (by simp)
  obtain ⟨-, ⟨-, hbase⟩, bb, hbb, C, hrow, hrep⟩ := ob1
  obtain ⟨bm, ms, clock, hbm, hheap, hst, hsz, hkeys, -⟩ := om1
  change slices_Sorted x = some y at hy
  unfold slices_Sorted at hy
  split at hy
  · rename_i hc
    obtain ⟨hlen, hwf⟩ := hc
    simp only [Option.some.injEq] at hy
    subst hy
    -- the argument
    have hvs : vs = #[.func (.func 158) #[] #[.pointer (some ⟨bb, 0, none⟩)]] := by
      obtain ⟨l⟩ := vs
      match l, hr with
      | [], hr => exact hr.elim
      | _ :: _ :: _, hr => exact hr.2.elim
      | [v], hr =>
        obtain ⟨h5, -⟩ := hr
        cases h5 with
        | fn _ _ _ vf vc s1 s2 hf hcp =>
          have hvf : vf = #[] := Array.eq_empty_of_size_eq_zero (by simpa using s1.symm)
          subst hvf
          obtain ⟨c, rfl⟩ : ∃ c, vc = #[c] := by
            obtain ⟨l⟩ := vc
            match l, s2 with
            | [c], _ => exact ⟨c, rfl⟩
          have hc0 := hcp 0 (by simp)
          simp only [List.getD_cons_zero, Array.getD] at hc0
          simp at hc0
          cases hc0 with
          | ptr _ _ _ _ hj hv hp =>
            obtain ⟨_, b2, hb2, rfl⟩ := hp gb hgb
            rw [hbb] at hb2
            cases hb2
            simp [hbase]
    have hcell : w.cell? ⟨bb, 0, none⟩ = some (.map (some bm)) := by
      have hc0 := hrow.cells 0 (by rw [hbase]; simp)
      rw [hc0]
      have hr0 := hrep 0 (by simp)
      rw [hbase] at hr0
      simp only [List.getD_cons_zero, Nat.add_zero] at hr0
      generalize C 0 = c at hr0
      cases hr0 with
      | map _ _ hj hv hp =>
        obtain ⟨b2, hb2, rfl⟩ := hp gm hgm
        rw [hbm] at hb2
        cases hb2
        rfl
    have hkey : ∀ i, i < x.length → (ms.getD i default).key = .int .i64 (x.getD i (0, (.str : Ty).dflt)).1 := fun i hi => by
      have := hkeys i hi
      generalize (ms.getD i default).key = kk at this
      cases this
      rfl
    obtain ⟨m1, m2⟩ := map_keys hsz hkey hwf
    have hF : Fit Tryz.prog 3 anyR ms clock := ⟨by simp only [maxLen]; omega, hst, m1⟩
    have hmax : Maps.size (.map ((ms.toList.map (WideElems.rg Tryz.prog 3 anyR)).foldr DataW.insert [])) ≤ 1000000 := by
      have e1 := (_root_.Go.WideShapes.sorted_perm (ms.toList.map (WideElems.rg Tryz.prog 3 anyR))).length_eq
      rw [List.length_map] at e1
      have e2 : ms.toList.length = ms.size := Array.length_toList
      show ((ms.toList.map (WideElems.rg Tryz.prog 3 anyR)).foldr DataW.insert []).length ≤ _
      omega
    rw [hvs]
    refine (sorted_at bm bb ms clock w hcell hheap hF hmax).mono ?_
    rintro e w' ⟨v, ss, rfl, hS, hrow', hnil, hB⟩
    obtain ⟨i1, i2⟩ := inv.grow (w' := w') hB.os hB.tape hB.output hB.size hB.block
    have hsort := isort_merge ((m2.symm.trans hS.symm))
    have hset : setAll ob [jb, jm] (encOs [.box (.cons (.ref 1) .nil), .map (.int .i64) .str] (newIdx [jb, jm] ob.length) [.box (.cons (.ref 1) .nil), .map (.int .i64) .str] x) = ob := by
      show ((ob.set jb (.box [.map jm])).set jm (.map (.int .i64) .str x)) ++ [] = ob
      rw [setO_same hob, setO_same hom, List.append_nil]
    have h4' : k [.isl (.int .i64) (isort (x.map (·.1)))] (setAll ob [jb, jm] (encOs [.box (.cons (.ref 1) .nil), .map (.int .i64) .str] (newIdx [jb, jm] ob.length) [.box (.cons (.ref 1) .nil), .map (.int .i64) .str] x)) = some r := h4
    rw [hset] at h4'
    refine ⟨[.isl (.int .i64) (isort (x.map (·.1)))], ob, G, v, rfl, h4', ?_, i1, i2, Nat.le_refl _⟩
    show Rep _ _ _ _ (.isl (.int .i64) (isort (x.map (·.1)))) v
    have hlen2 : (isort (x.map (·.1))).length = ss.length := by rw [hsort, List.length_mergeSort]
    rcases hrow'.2 with ⟨rfl, hz⟩ | ⟨g, cap, cur, rfl, hg0, hg, hcap, -, -, htake⟩
    · have : isort (x.map (·.1)) = [] := List.eq_nil_of_length_eq_zero (by omega)
      rw [this]
      exact .islE _ _ _
    · by_cases hz : ss.length = 0
      · have : isort (x.map (·.1)) = [] := List.eq_nil_of_length_eq_zero (by omega)
        rw [this, hz]
        exact .islE _ _ _
      · have hcells : ∀ m, m < ss.length → w'.cell? ⟨g, m, none⟩ = some (.int .i64 ((isort (x.map (·.1))).getD m 0)) := by
          intro m hm
          have h5 := congrArg (fun l => l[m]?) htake
          simp only [Nat.mul_one, List.getElem?_take, hm, if_true, ← hsort, List.getElem?_map] at h5
          have h6 : (isort (x.map (·.1)))[m]? = some ((isort (x.map (·.1))).getD m 0) := by simp [List.getD, show m < (isort (x.map (·.1))).length by omega]
          rw [h6] at h5
          simp only [Option.map_some, Array.getElem?_toList] at h5
          simp [World.cell?, hg, h5]
        rw [← hlen2]
        refine .isl (.int .i64) _ g 0 cap (fun m => .int .i64 ((isort (x.map (·.1))).getD m 0)) (by intro e; rw [e] at hlen2; exact hz hlen2.symm) (by decide) (by omega) ?_ (fun m hm => ?_) (fun i j hi hj => ?_)
        · rintro (hF2 | ⟨j, g2, hj1, hj2⟩)
          · have := inv.old g hF2; omega
          · have := (inv.free j g2 g hj1 hj2).2; omega
        · have := hcells m (by simp [Ty.size] at hm; omega)
          simpa using this
        · have hj0 : j = 0 := by simp [Ty.size] at hj; omega
          subst hj0
          show Rep _ _ _ _ (.int .i64 ((isort (x.map (·.1))).getD i 0)) _
          simp only [Ty.size, Nat.mul_one, Nat.add_zero]
          exact .int _ _
  · cases hy
end Go.Proofs.YtlbammfnkphajaaGreatDoor.Abs
