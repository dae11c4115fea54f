/- Addresses of parts, pieces of slices and strings, lengths. -/
import Derived.Test.YtlbammfnkphajaaGreatDoorAbsOpsC
import Derived.Laws.Strings2
namespace Go.Proofs.YtlbammfnkphajaaGreatDoor.Abs
open Go

section
variable {F : Nat → Prop} {w : World} {G : Gs} {ob : List AO} {P : Program} {TT : Nat → TI} {ρ : Type} {r : ρ} {A : Nat → Prop} {n : Nat} {k : AV → Option ρ}

theorem fieldAt_sound (tt : TTok P TT) {s f ft off : Nat} (h : fieldAt TT s f = some (ft, off)) : ∃ fields fd, P.underlying s = some (.struct fields) ∧ fields[f]? = some fd ∧ fd.type = ft ∧ fd.offset = off := by
  unfold fieldAt at h
  split at h
  · rename_i fs hk
    obtain ⟨fields, hu, hm⟩ := tt_st tt hk
    rw [← hm, List.getElem?_map] at h
    cases hq : fields.toList[f]? with
    | none => rw [hq] at h; cases h
    | some fd =>
      rw [hq] at h
      simp only [Option.map_some, Option.some.injEq, Prod.mk.injEq] at h
      exact ⟨fields, fd, hu, by simpa using hq, h.1, h.2⟩
  · cases h

theorem fieldAddrK_sound (tt : TTok P TT) {s f : Nat} {p : AV} {a : Value} (e : fieldAddrK TT s p f k = some r) (hp : Rep A w n G p a) :
    ∃ v z, k v = some r ∧ Rep A w n G v z ∧ (Instr.fieldAt s a f).run P w = .ok z w := by
  unfold fieldAddrK at e
  split at e
  · rename_i ft off hf
    obtain ⟨fields, fd, hu, h4, h5, h6⟩ := fieldAt_sound tt hf
    split at e
    · cases e
    · rename_i hc
      have hz : (TT ft).size ≠ 0 := fun h => hc (.inl h)
      have hk : (TT ft).kind ≠ .other := isOther_not fun h => hc (.inr h)
      subst h5; subst h6
      have hsz := tt_size tt hk w
      have hrun : ∀ b o, (Instr.fieldAt s (.pointer (some ⟨b, o, none⟩)) f).run P w = .ok (.pointer (some ⟨b, o + fd.offset, none⟩)) w := fun b o => by
        simp [Instr.fieldAt, run_underlying hu, h4, Instr.sureAddr, fieldPlace, hsz, hz, Addr.add_lit]
      split at e
      · cases hp
        rename_i j i sub hj hv h
        obtain ⟨b, o, rfl⟩ := hv
        refine ⟨_, _, e, .ptr j i _ _ hj ⟨_, _, rfl⟩ fun g hg => ?_, hrun b o⟩
        obtain ⟨h1, b', h2, h3⟩ := h g hg
        simp only [Value.pointer.injEq, Option.some.injEq, Addr.mk.injEq, and_true] at h3
        obtain ⟨rfl, rfl⟩ := h3
        exact ⟨h1, b, h2, by rw [Nat.add_assoc (g.base + i * g.size) sub]⟩
      · rename_i T v sub
        cases hp with
        | iptr _ _ _ b o cs hT hA hcs hr =>
        refine ⟨_, _, e, ?_, hrun b (o + sub)⟩
        rw [Nat.add_assoc]
        exact .iptr T v (sub + fd.offset) b o cs hT hA hcs hr
      · cases e
  · cases e

theorem int_val {x : AV} {a : Value} {c : IntKind} {i : Int} (h : Rep A w n G x a) (hx : x = .int c i) : a = .int c i := by
  subst hx; cases h; rfl

theorem indexAddrK_sound (tt : TTok P TT) (inv : Inv F w G ob) {t : Nat} {x y : AV} {a i : Value} (e : indexAddrK TT t x y ob k = some r)
    (hx : Rep (avoid F G) w ob.length G x a) (hy : Rep (avoid F G) w ob.length G y i) :
    ∃ v z, k v = some r ∧ Rep (avoid F G) w ob.length G v z ∧ (Instr.indexAt t a i).run P w = .ok z w := by
  unfold indexAddrK at e
  split at e
  · rename_i el c q hk
    cases hy
    have hu := tt_sl tt hk
    have hrun : ∀ (b o len cap : Nat) (hs : (TT el).kind ≠ .other), 0 ≤ q → q < (len : Int) →
        (Instr.indexAt t (.slice (some ⟨b, o, none⟩) len cap) (.int c q)).run P w = .ok (.pointer (some ⟨b, o + q.toNat * (TT el).size, none⟩)) w := by
      intro b o len cap hs h0 h1
      have hsz := tt_size tt hs w
      simp [Instr.indexAt, asIntOf, run_underlying hu, h0, h1, hsz, Addr.add_lit]
    split at e
    · rename_i T xs
      split at e
      · rename_i hT
        obtain ⟨hsz, hko⟩ := hT
        have hko := isOther_false hko
        split at e
        · rename_i hb
          obtain ⟨h0, h1⟩ := hb
          cases hx with
          | islE => simp at h1; omega
          | isl _ _ b o cap cs hne hT0 hcap hA hc hr =>
            have hi : q.toNat < xs.length := by omega
            refine ⟨_, _, e, ?_, hrun b o xs.length cap hko h0 h1⟩
            rw [hsz]
            have := Rep.iptr (A := avoid F G) (w := w) (n := ob.length) (G := G) T (xs.getD q.toNat T.dflt) 0 b (o + q.toNat * T.size) (fun m => cs (q.toNat * T.size + m)) hT0 hA
              (fun m hm => by
                rw [Nat.add_assoc]
                exact hc _ (mul_lt_cap hi hm)) (fun j hj => hr q.toNat j hi hj)
            simpa using this
        · cases e
      · cases e
    · rename_i j
      cases hx
      rename_i hj hv h
      split at e
      · rename_i T xs ho
        split at e
        · rename_i hT
          obtain ⟨hsz, hko⟩ := hT
          have hko := isOther_false hko
          split at e
          · rename_i hb
            obtain ⟨h0, h1⟩ := hb
            obtain ⟨g, hg, hobj⟩ := inv.obj hj (by rw [ho]; simp)
            rw [ho] at hobj
            obtain ⟨a', cap, rfl, hc1, hc2, hc3, hc4⟩ := h g hg
            obtain ⟨g1, g2, g3, g4, g5, g6⟩ := hobj
            have hcap : cap ≠ 0 := by omega
            have ha := hc4 hcap
            cases hbk : g.blk with
            | none => have := g5 hbk; omega
            | some b =>
              simp only [Gh.addr, hbk, Option.map_some, Nat.zero_mul, Nat.add_zero] at ha
              subst ha
              refine ⟨_, _, e, .ptr j q.toNat 0 _ hj ⟨_, _, rfl⟩ fun g' hg' => ?_, hrun b g.base g.len cap hko h0 (by omega)⟩
              rw [hg] at hg'; cases hg'
              refine ⟨by omega, b, hbk, by rw [g1, hsz]; rfl⟩
          · cases e
        · cases e
      · cases e
    · rename_i j off len
      cases hx
      rename_i hj hv h
      split at e
      · rename_i T xs ho
        split at e
        · rename_i hT
          obtain ⟨hsz, hko⟩ := hT
          have hko := isOther_false hko
          split at e
          · rename_i hb
            obtain ⟨h0, h1⟩ := hb
            obtain ⟨g, hg, hobj⟩ := inv.obj hj (by rw [ho]; simp)
            rw [ho] at hobj
            obtain ⟨a', cap, rfl, hc1, hc2, hc3, hc4⟩ := h g hg
            obtain ⟨g1, g2, g3, g4, g5, g6⟩ := hobj
            have hcap : cap ≠ 0 := by omega
            have ha := hc4 hcap
            cases hbk : g.blk with
            | none => have := g5 hbk; omega
            | some b =>
              simp only [Gh.addr, hbk, Option.map_some] at ha
              subst ha
              refine ⟨_, _, e, .ptr j (off + q.toNat) 0 _ hj ⟨_, _, rfl⟩ fun g' hg' => ?_, hrun b (g.base + off * g.size) len cap hko h0 (by omega)⟩
              rw [hg] at hg'; cases hg'
              refine ⟨by omega, b, hbk, by rw [g1, hsz, Nat.add_mul, Nat.add_assoc]; rfl⟩
          · cases e
        · cases e
      · cases e
    · rename_i vs
      split at e
      · rename_i hT
        obtain ⟨hsz, hko⟩ := hT
        have hko := isOther_false hko
        split at e
        · rename_i hb
          obtain ⟨h0, h1⟩ := hb
          cases hx with
          | fsl _ b o cap cs hne hcap hA hc hr =>
            have hi : q.toNat < vs.length := by omega
            refine ⟨_, _, e, ?_, hrun b o vs.length cap hko h0 h1⟩
            rw [hsz, Nat.mul_one]
            exact .fptr _ b _ (cs q.toNat) hA (hc _ hi) (hr _ hi)
        · cases e
      · cases e
    · cases e
  · rename_i m el c q hk
    cases hy
    have hu := tt_arr tt hk
    split at e
    case isFalse => cases e
    rename_i hko
    have hko := isOther_false hko
    split at e
    case isFalse => cases e
    rename_i hb
    obtain ⟨h0, h1⟩ := hb
    have hrun : ∀ (b o : Nat), (Instr.indexAt t (.pointer (some ⟨b, o, none⟩)) (.int c q)).run P w = .ok (.pointer (some ⟨b, o + q.toNat * (TT el).size, none⟩)) w := by
      intro b o
      have hsz := tt_size tt hko w
      simp [Instr.indexAt, asIntOf, run_underlying hu, h0, h1, hsz, Instr.sureAddr, Addr.add_lit]
    split at e
    · cases hx
      rename_i j i sub hj hv h
      obtain ⟨b, o, rfl⟩ := hv
      refine ⟨_, _, e, .ptr j i _ _ hj ⟨_, _, rfl⟩ fun g hg => ?_, hrun b o⟩
      obtain ⟨h1, b', h2, h3⟩ := h g hg
      simp only [Value.pointer.injEq, Option.some.injEq, Addr.mk.injEq, and_true] at h3
      obtain ⟨rfl, rfl⟩ := h3
      exact ⟨h1, b, h2, by rw [Nat.add_assoc (g.base + i * g.size) sub]⟩
    · rename_i T v sub
      cases hx with
      | iptr _ _ _ b o cs hT hA hcs hr =>
      refine ⟨_, _, e, ?_, hrun b (o + sub)⟩
      rw [Nat.add_assoc]
      exact .iptr T v _ b o cs hT hA hcs hr
    · cases e
  · cases e

theorem indexK_sound (tt : TTok P TT) {t : Nat} {x y : AV} {a i : Value} (e : indexK TT t x y k = some r) (hx : Rep A w n G x a) (hy : Rep A w n G y i) :
    ∃ v z, k v = some r ∧ Rep A w n G v z ∧ (Instr.index t a i).run P w = .ok z w := by
  unfold indexK at e
  split at e
  · rename_i s c q hk
    cases hx; cases hy
    have hu := tt_str tt hk
    split at e
    · rename_i hb
      obtain ⟨h0, h1⟩ := hb
      have hi : q.toNat < s.length := by omega
      refine ⟨_, .int .u8 (s.getD q.toNat 0).toNat, e, .int _ _, ?_⟩
      have hg : (⟨s.toArray⟩ : ByteArray)[q.toNat]? = some (s.getD q.toNat 0) := by
        have hsz : q.toNat < (⟨s.toArray⟩ : ByteArray).size := by simpa [ByteArray.size] using hi
        rw [getElem?_pos (⟨s.toArray⟩ : ByteArray) q.toNat hsz]
        simp [List.getD, hi, ByteArray.getElem_eq_getElem_data]
      simp [Instr.index, asIntOf, run_underlying hu, h0, hg]
    · cases e
  · cases e

/-! #### Pieces -/

def OptRep (A : Nat → Prop) (w : World) (n : Nat) (G : Gs) : Option AV → Option Value → Prop
  | none, none => True
  | some x, some v => Rep A w n G x v
  | _, _ => False

theorem bound_run {c : IntKind} {i : Int} {y : Nat} {code : BoundsCode} (h0 : 0 ≤ i) (h1 : i ≤ y) (w : World) : (Instr.sliceBound (.int c i) y code).run P w = .ok i.toNat w := by
  simp [Instr.sliceBound, asIntOf, h0, h1]

theorem boundK_sound {lo hi : Option AV} {vl vh : Option Value} {len cap : Nat} {kk : Int → Int → Option ρ} (e : boundK lo hi len kk = some r) (hl : OptRep A w n G lo vl) (hh : OptRep A w n G hi vh)
    (hcap : len ≤ cap) (b : Bool) : ∃ l h : Int, kk l h = some r ∧ 0 ≤ l ∧ l ≤ h ∧ h ≤ len ∧ (lo = none → l = 0) ∧ (hi = none → h = len) ∧
      (Instr.sliceBounds b len cap vl vh none).run P w = .ok (l.toNat, h.toNat, cap) w := by
  unfold boundK at e
  split at e
  · cases vl <;> cases vh <;> simp only [OptRep] at hl hh
    exact ⟨0, len, e, by omega, by omega, by omega, fun _ => rfl, fun _ => rfl, by simp [Instr.sliceBounds]⟩
  · rename_i c l
    cases vl <;> cases vh <;> simp only [OptRep] at hl hh
    cases hl
    split at e
    · rename_i hc
      refine ⟨l, len, e, hc.1, hc.2, by omega, fun h => (by cases h), fun _ => rfl, ?_⟩
      simp [Instr.sliceBounds, bound_run hc.1 hc.2]
    · cases e
  · rename_i c h
    cases vl <;> cases vh <;> simp only [OptRep] at hl hh
    cases hh
    split at e
    · rename_i hc
      refine ⟨0, h, e, by omega, hc.1, hc.2, fun _ => rfl, fun h => (by cases h), ?_⟩
      have h1 : h ≤ (cap : Int) := by omega
      simp [Instr.sliceBounds, bound_run hc.1 h1]
    · cases e
  · rename_i c l d h
    cases vl <;> cases vh <;> simp only [OptRep] at hl hh
    cases hl; cases hh
    split at e
    · rename_i hc
      refine ⟨l, h, e, hc.1, hc.2.1, hc.2.2, fun h => (by cases h), fun h => (by cases h), ?_⟩
      have h1 : h ≤ (cap : Int) := by omega
      have h2 : l ≤ (h.toNat : Int) := by omega
      have h3 : 0 ≤ h := by omega
      simp [Instr.sliceBounds, bound_run h3 h1, bound_run hc.1 h2]
    · cases e
  · cases e

theorem cut_eq {α : Type} (lo hi : Option AV) (xs : List α) (l h : Int) (hl : lo = none → l = 0) (hh : hi = none → h = xs.length) : cut lo hi xs l h = (xs.take h.toNat).drop l.toNat := by
  cases lo <;> cases hi <;> simp only [cut]
  · rw [hl rfl, hh rfl]; simp
  · rw [hl rfl]; simp
  · rw [hh rfl]; simp

/-- What is sliced without a look at the objects is sliced so at any. -/
theorem sliceK_ob {h : OA} {t : Nat} {x : AV} {lo hi mx : Option AV} {ob : List AO} {k : AV → Option ρ} (e : sliceK TT t x lo hi mx (sliceOb h ob) k = some r) : sliceK TT t x lo hi mx ob k = some r := by
  have key : sliceK TT t x lo hi mx [] k = some r → sliceK TT t x lo hi mx ob k = some r := by
    intro e
    unfold sliceK at e ⊢
    cases mx with
    | some _ => exact e
    | none =>
      simp only at e ⊢
      split at e
      · exact e
      · cases x <;> first | exact e | (simp at e)
      · cases e
  cases h <;> first | exact e | exact key e

theorem slice3K_sound (tt : TTok P TT) {t : Nat} {x mx : AV} {a vm : Value} {lo hi : Option AV} {vl vh : Option Value} (e : slice3K TT t x lo hi mx k = some r)
    (hx : Rep (avoid F G) w ob.length G x a) (hl : OptRep (avoid F G) w ob.length G lo vl) (hh : OptRep (avoid F G) w ob.length G hi vh) (hm : Rep (avoid F G) w ob.length G mx vm) :
    ∃ v z, k v = some r ∧ Rep (avoid F G) w ob.length G v z ∧ (Instr.sliceAt t a vl vh (some vm)).run P w = .ok z w := by
  unfold slice3K at e
  split at e
  case h_2 => cases e
  rename_i el T xs _ l _ h _ c hk
  have hu := tt_sl tt hk
  split at e
  case isFalse => cases e
  rename_i hc
  obtain ⟨⟨hsz, hko⟩, h0, h1, h2, h3⟩ := hc
  have hko := isOther_false hko
  have hs := tt_size tt hko w
  cases vl <;> cases vh <;> simp only [OptRep] at hl hh
  cases hl; cases hh; cases hm
  have key : ∀ (cap : Nat), xs.length ≤ cap → ∀ (k1 k2 k3 : IntKind), (Instr.sliceBounds true xs.length cap (some (.int k1 l)) (some (.int k2 h)) (some (.int k3 c))).run P w = .ok (l.toNat, h.toNat, c.toNat) w := by
    intro cap hcap k1 k2 k3
    have q1 : c ≤ (cap : Int) := by omega
    have q2 : h ≤ (c.toNat : Int) := by omega
    have q3 : l ≤ (h.toNat : Int) := by omega
    have q4 : 0 ≤ h := by omega
    have q5 : 0 ≤ c := by omega
    simp [Instr.sliceBounds, bound_run q5 q1, bound_run q4 q2, bound_run h0 q3]
  cases hx with
  | islE _ a' cap =>
    have e1 : l.toNat = 0 := by simp at h3; omega
    have e2 : h.toNat = 0 := by simp at h3; omega
    have e3 : c.toNat = 0 := by simp at h3; omega
    have k0 := key cap (Nat.zero_le _)
    simp only [List.length_nil] at k0
    simp only [List.take_nil, List.drop_nil] at e
    refine ⟨_, .slice a' 0 0, e, .islE T _ _, ?_⟩
    simp [Instr.sliceAt, Instr.slice, run_underlying hu, k0, hs, e1, e2, e3]
  | isl _ _ b o cap cs hne hT0 hcap hA hcc hr =>
    have hlen : ((xs.take h.toNat).drop l.toNat).length = h.toNat - l.toNat := by simp; omega
    refine ⟨_, .slice (if c.toNat = l.toNat then some ⟨b, o, none⟩ else some ⟨b, o + l.toNat * T.size, none⟩) (h.toNat - l.toNat) (c.toNat - l.toNat), e, ?_, ?_⟩
    · by_cases hz : (xs.take h.toNat).drop l.toNat = []
      · have : h.toNat - l.toNat = 0 := by rw [← hlen, hz]; rfl
        rw [hz, this]; exact .islE T _ _
      · have hlt : l.toNat < h.toNat := by
          have := List.length_pos_iff.2 hz
          omega
        rw [if_neg (by omega), ← hlen]
        refine .isl T _ b _ _ (fun m => cs (l.toNat * T.size + m)) hz hT0 (by omega) hA (fun m hm => ?_) (fun i j hii hj => ?_)
        · rw [Nat.add_assoc]
          refine hcc _ ?_
          rw [hlen] at hm
          have : l.toNat * T.size + (h.toNat - l.toNat) * T.size ≤ xs.length * T.size := by
            rw [← Nat.add_mul]; exact Nat.mul_le_mul_right _ (by omega)
          omega
        · have hi2 : i < h.toNat - l.toNat := by rw [← hlen]; exact hii
          have e2 : ((xs.take h.toNat).drop l.toNat).getD i T.dflt = xs.getD (l.toNat + i) T.dflt := by
            simp only [List.getD, List.getElem?_drop, List.getElem?_take]
            rw [if_pos (by omega)]
          rw [e2, ← Nat.add_assoc, ← Nat.add_mul]
          exact hr (l.toNat + i) j (by omega) hj
    · simp only [Instr.sliceAt, Instr.slice, Sem.run_bind, run_underlying hu, Result.andThen_ok, key cap hcap, hs, hsz, Sem.run_pure]
      congr 2
      split <;> simp [Addr.add_lit]

theorem sliceK_sound (tt : TTok P TT) (inv : Inv F w G ob) {t : Nat} {x : AV} {a : Value} {lo hi mx : Option AV} {vl vh vm : Option Value} (e : sliceK TT t x lo hi mx ob k = some r)
    (hx : Rep (avoid F G) w ob.length G x a) (hl : OptRep (avoid F G) w ob.length G lo vl) (hh : OptRep (avoid F G) w ob.length G hi vh) (hm : OptRep (avoid F G) w ob.length G mx vm) :
    ∃ v z, k v = some r ∧ Rep (avoid F G) w ob.length G v z ∧ (Instr.sliceAt t a vl vh vm).run P w = .ok z w := by
  unfold sliceK at e
  split at e
  · cases vm <;> simp only [OptRep] at hm
    exact slice3K_sound tt e hx hl hh hm
  · cases vm <;> simp only [OptRep] at hm
    split at e
    · rename_i hk
      have hu := tt_str tt hk
      split at e
      · cases hx
        rename_i s
        obtain ⟨l, h, e1, h1, h2, h3, h4, h5, h6⟩ := boundK_sound (P := P) e hl hh (Nat.le_refl _) false
        refine ⟨_, _, e1, .str _, ?_⟩
        have hsz : (⟨s.toArray⟩ : ByteArray).size = s.length := by simp [ByteArray.size]
        have hex : (⟨s.toArray⟩ : ByteArray).extract l.toNat h.toNat = ⟨(cut lo hi s l h).toArray⟩ := by
          rw [ByteArray.extract_mk, cut_eq lo hi s l h h4 h5]
          congr 1
          rw [List.drop_take]
        simp [Instr.sliceAt, Instr.slice, run_underlying hu, hsz, h6, hex]
      · cases e
    · rename_i el hk
      have hu := tt_sl tt hk
      split at e
      · rename_i T xs
        split at e
        · rename_i hT
          obtain ⟨hsz, hko⟩ := hT
          have hko := isOther_false hko
          have hs := tt_size tt hko w
          cases hx with
          | islE _ a' cap =>
            obtain ⟨l, h, e1, h1, h2, h3, h4, h5, h6⟩ := boundK_sound (P := P) e hl hh (Nat.zero_le cap) true
            have hl0 : l = 0 := by simp at h3; omega
            have hh0 : h = 0 := by simp at h3; omega
            subst hl0; subst hh0
            have hc : cut lo hi ([] : List T.D) 0 0 = [] := by rw [cut_eq lo hi _ _ _ h4 h5]; simp
            rw [hc] at e1
            simp only [List.length_nil] at h6
            exact ⟨_, .slice (if cap = 0 then a' else a'.map (·.add (0 * (TT el).size))) 0 cap, e1, .islE T _ _, by simp [Instr.sliceAt, Instr.slice, run_underlying hu, h6, hs]⟩
          | isl _ _ b o cap cs hne hT0 hcap hA hc hr =>
            obtain ⟨l, h, e1, h1, h2, h3, h4, h5, h6⟩ := boundK_sound (P := P) e hl hh hcap true
            have hce := cut_eq lo hi xs l h h4 h5
            have hlen : (cut lo hi xs l h).length = h.toNat - l.toNat := by rw [hce]; simp; omega
            refine ⟨_, .slice (if cap = l.toNat then some ⟨b, o, none⟩ else some ⟨b, o + l.toNat * T.size, none⟩) (h.toNat - l.toNat) (cap - l.toNat), e1, ?_, ?_⟩
            · by_cases hz : cut lo hi xs l h = []
              · have : h.toNat - l.toNat = 0 := by rw [← hlen, hz]; rfl
                rw [hz, this]; exact .islE T _ _
              · have hlt : l.toNat < h.toNat := by
                  have := List.length_pos_iff.2 hz
                  omega
                rw [if_neg (by omega), ← hlen]
                refine .isl T _ b _ _ (fun m => cs (l.toNat * T.size + m)) hz hT0 (by omega) hA (fun m hm => ?_) (fun i j hii hj => ?_)
                · rw [Nat.add_assoc]
                  refine hc _ ?_
                  rw [hlen] at hm
                  have : l.toNat * T.size + (h.toNat - l.toNat) * T.size ≤ xs.length * T.size := by
                    rw [← Nat.add_mul]; exact Nat.mul_le_mul_right _ (by omega)
                  omega
                · have hi2 : i < h.toNat - l.toNat := by rw [← hlen]; exact hii
                  have e2 : (cut lo hi xs l h).getD i T.dflt = xs.getD (l.toNat + i) T.dflt := by
                    rw [hce]
                    simp only [List.getD, List.getElem?_drop, List.getElem?_take]
                    rw [if_pos (by omega)]
                  rw [e2, ← Nat.add_assoc, ← Nat.add_mul]
                  exact hr (l.toNat + i) j (by omega) hj
            · simp only [Instr.sliceAt, Instr.slice, Sem.run_bind, run_underlying hu, Result.andThen_ok, h6, hs, hsz, Sem.run_pure]
              congr 2
              split <;> simp [Addr.add_lit]
        · cases e
      · cases hx
        split at e
        case isFalse => cases e
        rename_i hko
        have hko := isOther_false hko
        obtain ⟨l, h, e1, h1, h2, h3, h4, h5, h6⟩ := boundK_sound (P := P) e hl hh (Nat.zero_le 0) true
        have hl0 : l = 0 := by omega
        have hh0 : h = 0 := by omega
        subst hl0; subst hh0
        have hs := tt_size tt hko w
        exact ⟨_, .slice none 0 0, e1, .nilsl, by simp [Instr.sliceAt, Instr.slice, run_underlying hu, h6, hs]⟩
      · rename_i j
        cases hx
        rename_i hj hv hg0
        split at e
        · rename_i T xs ho
          split at e
          · rename_i hT
            obtain ⟨hsz, hko⟩ := hT
            have hko := isOther_false hko
            have hs := tt_size tt hko w
            obtain ⟨g, hg, hobj⟩ := inv.obj hj (by rw [ho]; simp)
            rw [ho] at hobj
            obtain ⟨g1, g2, g3, g4, g5, g6⟩ := hobj
            obtain ⟨a', cap, rfl, hc1, hc2, hc3, hc4⟩ := hg0 g hg
            obtain ⟨l, h, e1, h1, h2, h3, h4, h5, h6⟩ := boundK_sound (P := P) (len := xs.length) (cap := cap) e hl hh (by omega) true
            rw [← g3] at h6
            refine ⟨_, .slice (if cap = l.toNat then a' else a'.map (·.add (l.toNat * T.size))) (h.toNat - l.toNat) (cap - l.toNat), e1, .sl j _ _ _ hj ⟨_, _, _, rfl⟩ fun g' hg' => ?_, by
              simp [Instr.sliceAt, Instr.slice, run_underlying hu, h6, hs, hsz]⟩
            rw [hg] at hg'; cases hg'
            refine ⟨_, cap - l.toNat, by rw [show (h - l).toNat = h.toNat - l.toNat by omega], by omega, by omega, by omega, fun hne => ?_⟩
            rw [if_neg (by omega), hc4 (by omega)]
            cases hbk : g.blk with
            | none => simp [Gh.addr, hbk]
            | some b => simp [Gh.addr, hbk, Addr.add_lit, g1]
          · cases e
        · cases e
      · rename_i j off len
        cases hx
        rename_i hj hv hg0
        split at e
        · rename_i T xs ho
          split at e
          · rename_i hT
            obtain ⟨hsz, hko⟩ := hT
            have hko := isOther_false hko
            have hs := tt_size tt hko w
            obtain ⟨g, hg, hobj⟩ := inv.obj hj (by rw [ho]; simp)
            rw [ho] at hobj
            obtain ⟨g1, g2, g3, g4, g5, g6⟩ := hobj
            obtain ⟨a', cap, rfl, hc1, hc2, hc3, hc4⟩ := hg0 g hg
            obtain ⟨l, h, e1, h1, h2, h3, h4, h5, h6⟩ := boundK_sound (P := P) (len := len) (cap := cap) e hl hh hc2 true
            refine ⟨_, .slice (if cap = l.toNat then a' else a'.map (·.add (l.toNat * T.size))) (h.toNat - l.toNat) (cap - l.toNat), e1, .sl j _ _ _ hj ⟨_, _, _, rfl⟩ fun g' hg' => ?_, by
              simp [Instr.sliceAt, Instr.slice, run_underlying hu, h6, hs, hsz]⟩
            rw [hg] at hg'; cases hg'
            refine ⟨_, cap - l.toNat, by rw [show (h - l).toNat = h.toNat - l.toNat by omega], by omega, by omega, by omega, fun hne => ?_⟩
            rw [if_neg (by omega), hc4 (by omega)]
            cases hbk : g.blk with
            | none => simp [Gh.addr, hbk]
            | some b => simp [Gh.addr, hbk, Addr.add_lit, g1, Nat.add_mul, Nat.add_assoc]
          · cases e
        · cases e
      · cases e
    · cases e
end

end Go.Proofs.YtlbammfnkphajaaGreatDoor.Abs
