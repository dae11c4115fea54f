/- Contracts by hand, for functions of plain values: what 'Calls' says is what the abstract machine asks. -/
import Derived.Test.YtlbammfnkphajaaGreatDoorAbsFn
import Derived.Below
namespace Go.Proofs.YtlbammfnkphajaaGreatDoor.Abs
open Go Go.Proofs Go.RowKit

def Ty.scalar : Ty → Bool
  | .int _ => true
  | .bool => true
  | .str => true
  | _ => false

/-- The value that a plain datum is. -/
def sval : (T : Ty) → T.D → Value
  | .int k, n => .int k n
  | .bool, b => .bool b
  | .str, s => .string ⟨s.toArray⟩
  | _, _ => Go.undef

def Sh.plain : Sh → Bool
  | .nil => true
  | .cons (.v T) b => T.scalar && b.plain
  | _ => false

def svals : (s : Sh) → s.D → List Value
  | .cons (.v T) b, d => sval T (PD.fst T.dflt false b.u d) :: svals b (PD.snd b.d0 false b.u d)
  | _, _ => []

theorem rep_scalar {A : Nat → Prop} {w : World} {n : Nat} {G : Gs} {T : Ty} (hT : T.scalar = true) {d : T.D} {v : Value} (h : Rep A w n G (toAV T d) v) : v = sval T d := by
  cases T <;> first | (cases hT; done) | (cases h; rfl)
theorem rep_sval {A : Nat → Prop} {w : World} {n : Nat} {G : Gs} {T : Ty} (hT : T.scalar = true) (d : T.D) : Rep A w n G (toAV T d) (sval T d) := by
  cases T <;> first | (cases hT; done) | skip
  · exact .int _ _
  · exact .bool _
  · exact .str _
theorem lendV_scalar {ob : List AO} {T : Ty} (hT : T.scalar = true) {x : AV} {Z : List Nat} {y : T.D × List Nat} (e : lendV ob T x Z = some y) : y.2 = Z ∧ x = toAV T y.1 := by
  unfold lendV at e
  cases T <;> first | (cases hT; done) | skip
  all_goals
    split at e
    · rw [Option.bind_eq_some_iff] at e
      obtain ⟨⟨d, r, Z'⟩, h1, h2⟩ := e
      cases r with
      | cons _ _ => cases h2
      | nil =>
        simp only [Option.some.injEq] at h2
        subst h2
        cases x <;> simp [AV.cells, lend] at h1
        all_goals first | (rename_i cs; cases cs <;> simp [lend] at h1; done) | skip
        all_goals first | (obtain ⟨rfl, rfl, rfl⟩ := h1; exact ⟨rfl, rfl⟩) | (obtain ⟨rfl, rfl⟩ := h1; exact ⟨rfl, rfl⟩) | (simp_all [AV.isAgg, Ty.isAgg, toAV]; done)
    · cases e

theorem plain_u {s : Sh} (h : s.plain = true) (hu : s.u = true) : s = .nil := by
  cases s <;> first | rfl | (cases h; done) | skip
  rename_i a b
  cases a <;> first | (cases h; done) | (simp [Sh.u] at hu)

theorem decL_plain {objs : List OT} {ob : List AO} : ∀ (s : Sh), s.plain = true → ∀ (args : List AV) (acc : Acc) (y : s.D × List AV × Acc), decL objs ob s args acc = some y →
    y.2.2 = acc ∧ ∃ pre, args = pre ++ y.2.1 ∧ ∀ (A : Nat → Prop) (w : World) (n : Nat) (G : Gs) (vs : List Value), RepL A w n G pre vs → vs = svals s y.1
  | .nil, _, args, acc, y, e => by
    cases args <;> (simp only [decL, Option.some.injEq] at e; subst e; exact ⟨rfl, [], rfl, fun A w n G vs h => by cases vs with | nil => rfl | cons => exact h.elim⟩)
  | .cons (.v T) b, h, args, acc, y, e => by
    simp only [Sh.plain, Bool.and_eq_true] at h
    simp only [decL, Option.bind_eq_some_iff] at e
    obtain ⟨y1, h1, y2, h2, h3⟩ := e
    cases args with
    | nil => simp [decL] at h1
    | cons x r =>
      simp only [decL, Option.bind_eq_some_iff] at h1
      obtain ⟨q, hq, hq2⟩ := h1
      obtain ⟨q1, q2⟩ := lendV_scalar h.1 hq
      simp only [Option.some.injEq] at hq2
      subst hq2
      obtain ⟨i1, pre, i2, i3⟩ := decL_plain b h.2 _ _ _ h2
      simp only [Option.some.injEq] at h3
      subst h3
      refine ⟨by rw [i1]; simp only [q1], x :: pre, by simp only [List.cons_append]; rw [← i2], fun A w n G vs hr => ?_⟩
      cases vs with
      | nil => exact hr.elim
      | cons v vs =>
        obtain ⟨r1, r2⟩ := hr
        rw [q2] at r1
        have e1 := rep_scalar h.1 r1
        have e2 := i3 A w n G vs r2
        have f1 : PD.fst T.dflt false b.u (PD.mk false b.u q.1 y2.1) = q.1 := by cases b.u <;> rfl
        show v :: vs = sval T (PD.fst T.dflt false b.u (PD.mk false b.u q.1 y2.1)) :: svals b (PD.snd b.d0 false b.u (PD.mk false b.u q.1 y2.1))
        rw [f1, ← e1, e2]
        congr 1
        cases hu : b.u with
        | false =>
          rfl
        | true =>
          have := plain_u h.2 hu
          subst this
          rfl
  | .v _, h, _, _, _, _ => by cases h
  | .ref _, h, _, _, _, _ => by cases h
  | .part _, h, _, _, _, _ => by cases h
  | .nilptr, h, _, _, _, _ => by cases h
  | .nilfn, h, _, _, _, _ => by cases h
  | .nilmap, h, _, _, _, _ => by cases h
  | .nilifc, h, _, _, _, _ => by cases h
  | .nilsl, h, _, _, _, _ => by cases h
  | .fn _ _ _, h, _, _, _, _ => by cases h
  | .fsl _, h, _, _, _, _ => by cases h
  | .cons (.ref _) _, h, _, _, _, _ => by cases h
  | .cons (.part _) _, h, _, _, _, _ => by cases h
  | .cons .nilptr _, h, _, _, _, _ => by cases h
  | .cons .nilfn _, h, _, _, _, _ => by cases h
  | .cons .nilmap _, h, _, _, _, _ => by cases h
  | .cons .nilifc _, h, _, _, _, _ => by cases h
  | .cons .nilsl _, h, _, _, _, _ => by cases h
  | .cons (.fn _ _ _) _, h, _, _, _, _ => by cases h
  | .cons (.fsl _) _, h, _, _, _, _ => by cases h
  | .cons .nil _, h, _, _, _, _ => by cases h
  | .cons (.cons _ _) _, h, _, _, _, _ => by cases h

theorem encL_plain {objs : List OT} {rn : Nat → Nat} {A : Nat → Prop} {w : World} {n : Nat} {G : Gs} : ∀ (s : Sh), s.plain = true → ∀ (d : s.D), RepL A w n G (encL objs rn s d) (svals s d)
  | .nil, _, _ => trivial
  | .cons (.v T) b, h, d => by
    simp only [Sh.plain, Bool.and_eq_true] at h
    exact ⟨rep_sval h.1 _, encL_plain b h.2 _⟩
  | .v _, h, _ => by cases h
  | .ref _, h, _ => by cases h
  | .part _, h, _ => by cases h
  | .nilptr, h, _ => by cases h
  | .nilfn, h, _ => by cases h
  | .nilmap, h, _ => by cases h
  | .nilifc, h, _ => by cases h
  | .nilsl, h, _ => by cases h
  | .fn _ _ _, h, _ => by cases h
  | .fsl _, h, _ => by cases h
  | .cons (.ref _) _, h, _ => by cases h
  | .cons (.part _) _, h, _ => by cases h
  | .cons .nilptr _, h, _ => by cases h
  | .cons .nilfn _, h, _ => by cases h
  | .cons .nilmap _, h, _ => by cases h
  | .cons .nilifc _, h, _ => by cases h
  | .cons .nilsl _, h, _ => by cases h
  | .cons (.fn _ _ _) _, h, _ => by cases h
  | .cons (.fsl _) _, h, _ => by cases h
  | .cons .nil _, h, _ => by cases h
  | .cons (.cons _ _) _, h, _ => by cases h

/-- One value, or a tuple of them. -/
def retV : List Value → Value
  | [v] => v
  | l => .tuple l.toArray

theorem repRes_plain {A : Nat → Prop} {w : World} {n : Nat} {G : Gs} : ∀ {xs : List AV} {vs : List Value}, RepL A w n G xs vs → RepRes A w n G xs (retV vs)
  | [], [], _ => ⟨#[], rfl, trivial⟩
  | [_], [_], h => h.1
  | _ :: _ :: _, v :: u :: m, h => ⟨(v :: u :: m).toArray, rfl, h⟩
  | [], _ :: _, h => h.elim
  | [_], [], h => h.elim
  | [_], _ :: _ :: _, h => h.2.elim
  | _ :: _ :: _, [], h => h.elim
  | _ :: _ :: _, [_], h => h.2.elim

/-- A function of plain values. -/
theorem sound_plain {P : Program} {fid n m : Nat} {is os : List Nat} {si so : Sh} (hi : si.plain = true) (ho : so.plain = true)
    {f : (⟨n, 0, [], is, si⟩ : Spec).D → Option (OutD [⟨m, 0, [], os, so⟩])}
    (h : ∀ d (r : (⟨m, 0, [], os, so⟩ : Spec).D) (w : World), f d = some r → Calls P fid (svals si (Spec.vs_ ⟨n, 0, [], is, si⟩ d)).toArray w fun e w' => e = .returned (retV (svals so (Spec.vs_ ⟨m, 0, [], os, so⟩ r))) ∧ Below w.heap.size w w') :
    FnSound P fid (mkFun ⟨n, 0, [], is, si⟩ [⟨m, 0, [], os, so⟩] f) := by
  intro ρ args ob k r e Fb w G vs inv hr
  unfold mkFun at e
  simp only [Option.bind_eq_some_iff] at e
  obtain ⟨⟨x, acc⟩, h1, js, h2, h3⟩ := e
  unfold Spec.readIn Spec.read at h1
  rw [Option.bind_eq_some_iff] at h1
  obtain ⟨⟨d, rest, acc1⟩, g1, g2⟩ := h1
  obtain ⟨a1, pre, a2, a3⟩ := decL_plain si hi _ _ _ g1
  simp only at a1 a2 a3
  cases rest with
  | cons _ _ => cases g2
  | nil =>
    simp only [decOs, Option.bind_some] at g2
    have hap : apart acc1.own acc1.gone = true := by rw [a1]; rfl
    rw [hap] at g2
    simp only [Option.some.injEq, Prod.mk.injEq] at g2
    obtain ⟨g3, g4⟩ := g2
    have hacc : acc = ⟨[], [], []⟩ := by rw [← g4, a1]; rfl
    rw [hacc] at h2 h3
    simp only [jsOf, Option.some.injEq] at h2
    subst h2
    simp only [lendOk] at h3
    rw [Option.bind_eq_some_iff] at h3
    obtain ⟨y, hy, h4⟩ := h3
    have hd : Spec.vs_ ⟨n, 0, [], is, si⟩ x = d := by
      rw [← g3]
      unfold Spec.vs_
      show PD.snd si.d0 true si.u (PD.mk true si.u () d) = d
      rfl
    rw [List.append_nil] at a2
    subst a2
    have hv := a3 _ _ _ _ _ hr
    have hvs : vs = (svals si d).toArray := by rw [← hv]
    rw [hvs, ← hd]
    refine (h x y w hy).mono ?_
    rintro e w' ⟨rfl, hB⟩
    obtain ⟨i1, i2⟩ := inv.grow (w' := w') hB.os hB.tape hB.output hB.size hB.block
    refine ⟨_, ob ++ [], G, _, rfl, h4, repRes_plain (encL_plain so ho _), ?_, i2, by simp⟩
    rw [List.append_nil]; exact i1
end Go.Proofs.YtlbammfnkphajaaGreatDoor.Abs
