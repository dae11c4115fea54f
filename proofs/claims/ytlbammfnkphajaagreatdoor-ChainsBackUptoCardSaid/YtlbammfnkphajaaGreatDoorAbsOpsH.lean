/- Appends. -/
import Derived.Test.YtlbammfnkphajaaGreatDoorAbsOpsG
namespace Go.Proofs.YtlbammfnkphajaaGreatDoor.Abs
open Go

section
variable {F : Nat → Prop} {w : World} {G : Gs} {ob : List AO} {P : Program} {TT : Nat → TI} {ρ : Type} {r : ρ} {A : Nat → Prop} {n : Nat}

theorem tt_rowish (tt : TTok P TT) {t : Nat} (h : (TT t).kind.rowish = true) : ∃ d, P.underlying t = some d ∧ ((∃ e, d = .slice e) ∨ d = .string) := by
  have hne : (TT t).kind ≠ .other := by intro e; rw [e] at h; cases h
  obtain ⟨d, hd, hf⟩ := tt_desc tt hne
  refine ⟨d, hd, ?_⟩
  generalize (TT t).kind = q at h hf
  cases q <;> simp [TK.rowish] at h <;> cases d <;> simp_all [TK.fits]

/-- There is room: the new elements are written behind. -/
theorem run_append_here {t u ty e : TypeId} {i : TypeInfo} {du : TypeDesc} (ht : P.underlying t = some (.slice e)) (hu : P.underlying u = some du) (hd : (∃ e, du = .slice e) ∨ du = .string) (hi : P.info? e = some i)
    (base : Option Addr) (sLen sCap m : Nat) (y : Value) (news : List Value) (hlen : (Builtin.lenOf y).run P w = .ok m w) (hf : (Builtin.firstCells i.size m y).run P w = .ok news.toArray w) (hroom : sLen + m ≤ sCap)
    (w' : World) (hst : ∀ a, base = some a → (storeCells (a.add (sLen * i.size)) news).run P w = .ok () w') (hn : base = none → w' = w) :
    (Builtin.append_ #[t, u] ty #[.slice base sLen sCap, y]).run P w = .ok (.slice base (sLen + m) sCap) w' := by
  cases base with
  | none =>
    rw [hn rfl]
    rcases hd with ⟨_, rfl⟩ | rfl <;> simp [Builtin.append_, run_underlying ht, run_underlying hu, sizeOf, typeInfo, hi, hlen, hroom, hf]
  | some a =>
    have := hst a rfl
    rcases hd with ⟨_, rfl⟩ | rfl <;> simp [Builtin.append_, run_underlying ht, run_underlying hu, sizeOf, typeInfo, hi, hlen, hroom, hf, this]

/-- There is none: a new block. -/
theorem run_append_new {t u ty e : TypeId} {i : TypeInfo} {z : Value} {du : TypeDesc} (ht : P.underlying t = some (.slice e)) (hu : P.underlying u = some du) (hd : (∃ e, du = .slice e) ∨ du = .string) (hi : P.info? e = some i) (hz : i.zero = some z)
    (base : Option Addr) (sLen sCap m : Nat) (y : Value) (olds news : List Value) (hlen : (Builtin.lenOf y).run P w = .ok m w)
    (hfo : (Builtin.firstCells i.size sLen (.slice base sLen sCap)).run P w.drew = .ok olds.toArray w.drew) (hf : (Builtin.firstCells i.size m y).run P w.drew = .ok news.toArray w.drew) (hroom : sCap < sLen + m)
    (h63 : ((sLen + m : Nat) : Int) ≤ 9223372036854775807) (hfit : Builtin.nextslicecap (sLen + m) sCap * i.bytes ≤ 281474976710656) :
    (Builtin.append_ #[t, u] ty #[.slice base sLen sCap, y]).run P w =
      .ok (.slice (some ⟨w.heap.size, 0, none⟩) (sLen + m) (grownCap w (sLen + m) sCap e))
        (w.drew.alloc (.cells (olds.toArray ++ news.toArray ++ Builtin.zeroCells z.cells (grownCap w (sLen + m) sCap e - (sLen + m))) e)) := by
  have hn : ¬ (sLen + m ≤ sCap) := by omega
  have h63' : ¬ (9223372036854775807 < ((sLen : Int) + (m : Int))) := by omega
  have h48' : ¬ (281474976710656 < Builtin.nextslicecap (sLen + m) sCap * i.bytes) := by omega
  rcases hd with ⟨_, rfl⟩ | rfl <;> simp [Builtin.append_, run_underlying ht, run_underlying hu, sizeOf, typeInfo, zeroValue, hi, hz, hlen, hn, h63', h48', Question.forced, hf, hfo, newRow, grownCap]
  all_goals (congr 2; apply Array.ext'; simp [List.append_assoc])

theorem cells_append {T : Ty} {xs ys : List T.D} {olds news : List Value} {z : Array Value} (ho : olds.length = xs.length * T.size) (hx : Cells A w n G T xs (fun i => olds.getD i undef))
    (hl : news.length = ys.length * T.size) (hy : Cells A w n G T ys (fun i => news.getD i undef)) :
    Cells A w n G T (xs ++ ys) (fun i => (olds.toArray ++ news.toArray ++ z).getD i undef) := by
  intro i j hi hj
  simp only [List.length_append] at hi
  by_cases h : i < xs.length
  · have hm := mul_lt_cap h hj
    have e1 : (xs ++ ys).getD i T.dflt = xs.getD i T.dflt := by simp [List.getD, List.getElem?_append, h]
    have e2 : (olds.toArray ++ news.toArray ++ z).getD (i * T.size + j) undef = olds.getD (i * T.size + j) undef := by
      rw [← ho] at hm
      have : i * T.size + j < olds.length + news.length + z.size := by omega
      have h2 : i * T.size + j < olds.length + news.length := by omega
      simp [Array.getD, List.getD, hm, this, h2]
    simp only [e1, e2]; exact hx i j h hj
  · have hi' : i - xs.length < ys.length := by omega
    have hm := mul_lt_cap hi' hj
    have e1 : (xs ++ ys).getD i T.dflt = ys.getD (i - xs.length) T.dflt := by simp [List.getD, List.getElem?_append, h]
    have e3 : i * T.size + j = olds.length + ((i - xs.length) * T.size + j) := by
      rw [ho, ← Nat.add_assoc, ← Nat.add_mul]
      rw [show xs.length + (i - xs.length) = i by omega]
    have e2 : (olds.toArray ++ news.toArray ++ z).getD (i * T.size + j) undef = news.getD ((i - xs.length) * T.size + j) undef := by
      rw [e3]
      rw [← hl] at hm
      generalize (i - xs.length) * T.size + j = q at hm
      have : olds.length + q < olds.length + news.length + z.size := by omega
      have h2 : olds.length + q < olds.length + news.length := by omega
      simp [Array.getD, List.getD, hm, this, h2]
    simp only [e1, e2]; exact hy _ j hi' hj

/-- What an own slice that is appended to is: its cells, where they lie. -/
theorem own_sound (inv : Inv F w G ob) {T : Ty} {x : AV} {xs : List T.D} {v : Value} (h : listOf T x ob = some xs) (hown : isOwn x = true) (hx : Rep (avoid F G) w ob.length G x v) (hT : 0 < T.size) :
    ∃ base cap kj, v = .slice base xs.length cap ∧ killOf x ob = killL kj ob ∧ (∀ j, refOf x = some j → kj = some j) ∧ xs.length ≤ cap ∧
      (cap = 0 ∨ ∃ j g off b C, kj = some j ∧ G j = some g ∧ g.blk = some b ∧ base = some ⟨b, off, none⟩ ∧ Row w b (off + cap * T.size) C ∧ Cells (avoid F G) w ob.length G T xs (fun m => C (off + m))) := by
  cases x <;> simp only [isOwn] at hown <;> try cases hown
  · cases hx
    simp only [listOf, Option.some.injEq] at h
    subst h
    exact ⟨none, 0, none, rfl, rfl, (fun j hj => by cases hj), Nat.le_refl _, .inl rfl⟩
  · rename_i j
    cases hx
    rename_i hj hv hg0
    simp only [listOf] at h
    split at h
    · rename_i T' ys ho
      split at h
      · rename_i hT'
        subst hT'
        simp only [Option.some.injEq] at h
        have : ys = xs := h
        subst this
        obtain ⟨g, hg, hobj⟩ := inv.obj hj (by rw [ho]; simp)
        rw [ho] at hobj
        obtain ⟨a, cap, rfl, h1, h2, h3, h4⟩ := hg0 g hg
        obtain ⟨g1, g2, g3, g4, g5, g6⟩ := hobj
        refine ⟨a, cap, some j, by rw [g3], rfl, (fun j hj => hj), by omega, ?_⟩
        by_cases h0 : cap = 0
        · exact .inl h0
        · right
          have ha := h4 h0
          cases hbk : g.blk with
          | none => have := g5 hbk; omega
          | some b =>
            obtain ⟨C, hrow, hrep⟩ := g6 b hbk
            simp only [Gh.addr, hbk, Option.map_some, Nat.zero_mul, Nat.add_zero] at ha
            have hle : g.base + cap * T'.size ≤ g.base + g.cap * g.size := by
              rw [g1]
              have : cap * T'.size ≤ g.cap * T'.size := Nat.mul_le_mul_right _ (by omega)
              omega
            refine ⟨j, g, g.base, b, C, rfl, hg, hbk, ha, ⟨fun o ho => hrow.cells o (by omega), fun o ho => hrow.free o (by omega)⟩, fun i j hi hj => ?_⟩
            have := hrep i j hi hj
            simpa [Nat.add_assoc] using this
      · cases h
    · cases h
  · rename_i j off len
    cases hx
    rename_i hj hv hg0
    simp only [listOf] at h
    split at h
    · rename_i T' ys ho
      split at h
      · rename_i hT'
        subst hT'
        simp only [Option.some.injEq] at h
        have hxs : (ys.drop off).take len = xs := h
        subst hxs
        obtain ⟨g, hg, hobj⟩ := inv.obj hj (by rw [ho]; simp)
        rw [ho] at hobj
        obtain ⟨a, cap, rfl, h1, h2, h3, h4⟩ := hg0 g hg
        obtain ⟨g1, g2, g3, g4, g5, g6⟩ := hobj
        have hlen : ((ys.drop off).take len).length = len := by simp; omega
        refine ⟨a, cap, some j, by rw [hlen], rfl, (fun j hj => hj), by omega, ?_⟩
        by_cases h0 : cap = 0
        · exact .inl h0
        · right
          have ha := h4 h0
          cases hbk : g.blk with
          | none => have := g5 hbk; omega
          | some b =>
            obtain ⟨C, hrow, hrep⟩ := g6 b hbk
            simp only [Gh.addr, hbk, Option.map_some] at ha
            have hle : g.base + off * g.size + cap * T'.size ≤ g.base + g.cap * g.size := by
              rw [g1]
              have : (off + cap) * T'.size ≤ g.cap * T'.size := Nat.mul_le_mul_right _ (by omega)
              rw [Nat.add_mul] at this
              omega
            refine ⟨j, g, g.base + off * g.size, b, C, rfl, hg, hbk, ha, ⟨fun o ho => hrow.cells o (by omega), fun o ho => hrow.free o (by omega)⟩, fun i j hi hj => ?_⟩
            rw [hlen] at hi
            have := hrep (off + i) j (by omega) hj
            have e1 : ((ys.drop off).take len).getD i T'.dflt = ys.getD (off + i) T'.dflt := by
              simp only [List.getD, List.getElem?_take, List.getElem?_drop]
              rw [if_pos hi]
            rw [e1]
            rw [Nat.add_mul, ← Nat.add_assoc] at this
            simpa [g1, Nat.add_assoc] using this
      · cases h
    · cases h

theorem appendK_sound (tt : TTok P TT) (inv : Inv F w G ob) {T : Ty} {t u : Nat} {x y : AV} {a b : Value} {k : AV → List AO → Option ρ} (e : appendK TT T t u x y ob k = some r)
    (hx : Rep (avoid F G) w ob.length G x a) (hy : Rep (avoid F G) w ob.length G y b) (ty : TypeId) :
    ∃ v z ob' w' G', k v ob' = some r ∧ Rep (avoid F G') w' ob'.length G' v z ∧ Inv F w' G' ob' ∧ Trans ob.length w G w' G' ∧ ob.length ≤ ob'.length ∧ (Builtin.append_ #[t, u] ty #[a, b]).run P w = .ok z w' := by
  unfold appendK at e
  split at e
  · rename_i el hk
    split at e
    · rename_i hc
      obtain ⟨hsz, hT, hko, hown, hrow, hzl⟩ := hc
      split at e
      · rename_i xs ys hxs hys
        split at e
        · rename_i hroom
          obtain ⟨hb0, hbytes⟩ := hroom
          have hko' := isOther_false hko
          obtain ⟨i, z, hi, hs, hb, hzz, hzc, _⟩ := ((tt el).resolve_left hko').2
          have ht := tt_sl tt hk
          obtain ⟨du, hu, hd⟩ := tt_rowish tt hrow
          have his : i.size = T.size := hs.trans hsz
          obtain ⟨news, hsrc⟩ := listOf_sound (P := P) inv hys hy
          obtain ⟨olds, hsrc0⟩ := listOf_sound (P := P) inv hxs hx
          obtain ⟨base, cap, kj, rfl, hkill, _, hlc, hrest⟩ := own_sound inv hxs hown hx hT
          have hl2 : (killL kj ob ++ [AO.arr T (xs ++ ys)]).length = ob.length + 1 := by simp [killL_length]
          rw [hkill] at e
          by_cases hfits : xs.length + ys.length ≤ cap
          · -- in place
            by_cases h0 : cap = 0
            · -- nothing at all
              have hx0 : xs = [] := List.length_eq_zero_iff.1 (by omega)
              have hy0 : ys = [] := List.length_eq_zero_iff.1 (by omega)
              subst hx0; subst hy0
              have hnews : news = [] := List.length_eq_zero_iff.1 (by simpa using hsrc.len)
              subst hnews
              let g : Gh := ⟨none, 0, T.size, 0, 0⟩
              have hp := inv.push (w' := w) kj g (.arr T ([] ++ [])) rfl rfl rfl (Nat.le_refl _) (fun _ _ _ => rfl) (fun b hb => by simp [g] at hb)
                (fun st => ⟨rfl, hT, rfl, Nat.le_refl _, fun _ => rfl, fun b hb => by simp [g] at hb⟩)
              have hrun := run_append_here (P := P) (w := w) (ty := ty) ht hu hd hi base 0 cap 0 b [] (hsrc.lenOf w) (by
                  have := hsrc.first w rfl
                  rw [his]; exact this) (by omega) w (fun a _ => by simp [storeCells]) (fun _ => rfl)
              refine ⟨_, _, _, _, _, e, ?_, hp.1, hp.2.1, by rw [hl2]; omega, hrun⟩
              rw [hl2]
              refine .slw _ _ (by omega) ⟨_, _, _, rfl⟩ fun g' hg' => ?_
              have e1 : g = g' := by simpa [Gs.push] using hg'
              subst e1
              exact ⟨base, cap, rfl, by simp [g, h0], by simp [g], by simp [g], fun h => absurd h0 h⟩
            · obtain ⟨j, g0, off, bk, C, hkj, hGj, hblk, hbase, hR, hcells⟩ := hrest.resolve_left h0
              subst hkj; subst hbase
              have hnl : news.length = ys.length * T.size := hsrc.len
              have hle : xs.length * T.size + ys.length * T.size ≤ cap * T.size := by rw [← Nat.add_mul]; exact Nat.mul_le_mul_right _ hfits
              obtain ⟨C2, hset, hC1, hC2⟩ := hR.set' (o := off + xs.length * T.size) (vs := news) (by omega)
              let g : Gh := ⟨some bk, off, T.size, xs.length + ys.length, cap⟩
              let w' := w.setCells bk (off + xs.length * T.size) news
              have hrw := rest_setCells bk news (off + xs.length * T.size) w
              have hp := inv.push (w' := w') (some j) g (.arr T (xs ++ ys)) hrw.1 hrw.2.1 hrw.2.2 (by simp [w', size_setCells]) (fun c _ hc => heap_setCells bk news _ w c (fun e => hc (by simp [g, e])))
                (fun c hcb => by
                  have : bk = c := by simpa [g] using hcb
                  subst this
                  exact ⟨by simp only [w', size_setCells]; exact (inv.free j g0 bk hGj hblk).2, .inr ⟨j, g0, rfl, hGj, hblk⟩⟩)
                (fun st => by
                  refine ⟨rfl, hT, by simp [g], by simpa [g] using hfits, (fun h => by cases h), fun c hcb => ?_⟩
                  have : bk = c := by simpa [g] using hcb
                  subst this
                  refine ⟨C2, by simpa [g] using hset, fun i j hi hj => ?_⟩
                  simp only [List.length_append] at hi
                  show Rep _ _ _ _ _ (C2 (off + i * T.size + j))
                  by_cases hlt : i < xs.length
                  · have hm := mul_lt_cap hlt hj
                    have e1 : (xs ++ ys).getD i T.dflt = xs.getD i T.dflt := by simp [List.getD, List.getElem?_append, hlt]
                    rw [e1, hC2 _ (by omega), Nat.add_assoc]
                    exact (hcells i j hlt hj).stays st
                  · have hi' : i - xs.length < ys.length := by omega
                    have hm := mul_lt_cap hi' hj
                    have e1 : (xs ++ ys).getD i T.dflt = ys.getD (i - xs.length) T.dflt := by simp [List.getD, List.getElem?_append, hlt]
                    have e3 : off + i * T.size + j = off + xs.length * T.size + ((i - xs.length) * T.size + j) := by
                      have : i * T.size = xs.length * T.size + (i - xs.length) * T.size := by
                        rw [← Nat.add_mul]; rw [show xs.length + (i - xs.length) = i by omega]
                      omega
                    rw [e1, e3, hC1 _ (by omega)]
                    exact (hsrc.cells _ j hi' hj).stays st)
              have hrun := run_append_here (P := P) (w := w) (ty := ty) ht hu hd hi (some ⟨bk, off, none⟩) xs.length cap ys.length b news (hsrc.lenOf w) (by
                  have := hsrc.first w rfl
                  rw [his]; exact this) hfits w' (fun a ha => by
                  cases ha
                  have hst := run_storeCells_cells (P := P) bk (off + xs.length * T.size) news 0 w (fun m hm => by rw [Nat.add_zero, hR.cells _ (by omega)]; rfl)
                    (fun m hm => by rw [Nat.add_zero]; exact hR.free _ (by omega)) (fun v hv => by
                      obtain ⟨m, hm, rfl⟩ := List.getElem_of_mem hv
                      have := cells_one hsrc.cells (m := m) (by omega)
                      simpa [List.getD, hm] using this)
                  rw [his, Addr.add_lit]
                  simpa using hst) (fun h => by cases h)
              refine ⟨_, _, _, _, _, e, ?_, hp.1, hp.2.1, by rw [hl2]; omega, hrun⟩
              rw [hl2]
              refine .slw _ _ (by omega) ⟨_, _, _, rfl⟩ fun g' hg' => ?_
              have e1 : g = g' := by simpa [Gs.push] using hg'
              subst e1
              exact ⟨_, cap, rfl, by simp [g], by simpa [g] using hfits, by simp [g], fun _ => by simp [Gh.addr, g]⟩
          · -- a new block
            have hfit := growslice_fits (need := xs.length + ys.length) (old := cap) (bytes := i.bytes) (by omega) (by rw [hb]; exact hbytes)
            have h63 : ((xs.length + ys.length : Nat) : Int) ≤ 9223372036854775807 := by
              have : (xs.length + ys.length) * 1 ≤ (xs.length + ys.length) * (TT el).bytes := Nat.mul_le_mul_left _ hb0
              omega
            have hrun := run_append_new (P := P) (w := w) (ty := ty) ht hu hd hi hzz base xs.length cap ys.length b olds news (hsrc.lenOf w) (by
                have := hsrc0.first w.drew rfl
                rw [his]; exact this) (by
                have := hsrc.first w.drew rfl
                rw [his]; exact this) (by omega) h63 hfit
            have hzsz : z.cells.size = T.size := by
              have h1 := congrArg List.length hzc
              rw [hzl] at h1
              simpa using h1
            have hcap : xs.length + ys.length ≤ grownCap w (xs.length + ys.length) cap el := by simp only [grownCap, Question.cut]; omega
            obtain ⟨G', hn1, hn2, hn3, hn4⟩ := new_arr inv (T := T) (xs := xs ++ ys) w.drew (.inr rfl) (olds.toArray ++ news.toArray ++ Builtin.zeroCells z.cells (grownCap w (xs.length + ys.length) cap el - (xs.length + ys.length))) el
              (grownCap w (xs.length + ys.length) cap el) hT (by simpa using hcap) (by
                have e1 := hsrc0.len
                have e2 := hsrc.len
                simp only [Array.size_append, List.size_toArray, Builtin.zeroCells, Array.size_map, Array.size_range, e1, e2, hzsz]
                rw [← Nat.add_mul, ← Nat.add_mul]
                congr 1; omega) (cells_append hsrc0.len hsrc0.cells hsrc.len hsrc.cells) kj
            rw [List.length_append] at hn4
            exact ⟨_, _, _, _, G', e, by rw [hl2]; exact hn4, hn1, hn2, by rw [hl2]; omega, hrun⟩
        · cases e
      · cases e
    · cases e
  · cases e
end

end Go.Proofs.YtlbammfnkphajaaGreatDoor.Abs
