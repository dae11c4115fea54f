/- Contracts by hand: a function of a string that yields a truth, and leaves all that was as it was. -/
import Derived.Test.YtnbhmifidhoblaaDoorAbsFn
import Derived.Below
namespace Go.Proofs.YtnbhmifidhoblaaDoor.Abs
open Go Go.Proofs Go.RowKit

theorem sound_str_bool {P : Program} {fid n m i j : Nat} {f : List UInt8 → Option Bool} (h : ∀ (s : List UInt8) (b : Bool) (w : World), f s = some b → Calls P fid #[.string ⟨s.toArray⟩] w fun e w' => e = .returned (.bool b) ∧ Below w.heap.size w w') :
    FnSound P fid (mkFun ⟨n, 0, [], [i], .cons (.v .str) .nil⟩ [⟨m, 0, [], [j], .cons (.v .bool) .nil⟩] f) := by
  intro ρ args ob k r e Fb w G vs inv hr
  unfold mkFun at e
  simp only [Option.bind_eq_some_iff] at e
  obtain ⟨⟨x, acc⟩, h1, js, h2, h3⟩ := e
  have key : ∃ s : List UInt8, args = [.str s] ∧ x = s ∧ acc = ⟨[], [], []⟩ := by
    match args with
    | [] => simp [Spec.readIn, Spec.read, decL] at h1
    | a :: rest =>
      simp only [Spec.readIn, Spec.read, decL, Option.bind_eq_some_iff, Option.some.injEq] at h1
      obtain ⟨y, ⟨z, ⟨q, hq, hz1⟩, u, hu, hz⟩, h5⟩ := h1
      subst hz1
      subst hu
      subst hz
      cases rest with
      | cons c rest => simp at h5
      | nil =>
        simp only at h5
        have hs : ∃ s : List UInt8, a = .str s ∧ q = (s, []) := by
          unfold lendV at hq
          cases a <;> simp [AV.isAgg, Ty.isAgg, AV.cells, lend] at hq
          exact ⟨_, rfl, hq.symm⟩
        obtain ⟨s, rfl, rfl⟩ := hs
        simp [decOs, apart] at h5
        obtain ⟨h6, h7⟩ := h5
        exact ⟨s, rfl, h6.symm, h7.symm⟩
  obtain ⟨s, rfl, rfl, rfl⟩ := key
  simp only [jsOf, Option.some.injEq] at h2
  subst h2
  change ((f x).bind fun y => k [.bool y] (ob ++ [])) = some r at h3
  rw [Option.bind_eq_some_iff] at h3
  obtain ⟨b, hb, h4⟩ := h3
  have hv : vs = #[.string ⟨x.toArray⟩] := by
    obtain ⟨l⟩ := vs
    match l, hr with
    | [], hr => exact hr.elim
    | [v], hr => obtain ⟨h5, _⟩ := hr; cases h5; rfl
    | _ :: _ :: _, hr => exact hr.2.elim
  subst hv
  refine (h x b w hb).mono ?_
  rintro e w' ⟨rfl, hB⟩
  obtain ⟨g1, g2⟩ := inv.grow (w' := w') hB.os hB.tape hB.output hB.size hB.block
  exact ⟨[.bool b], ob ++ [], G, .bool b, rfl, h4, .bool b, by rw [List.append_nil]; exact g1, g2, by simp⟩
end Go.Proofs.YtnbhmifidhoblaaDoor.Abs
