/- Operations that look at no memory: the abstract answer is the true one, renamed. -/
import Derived.Test.YtncmgiddcefpcaaDoorEvB
namespace Go.Ev
open Go
set_option linter.unusedSimpArgs false
set_option linter.unusedVariables false

theorem prunS_sound {P : Program} {m : Mp} {s : Sem Value} {v : Value} (h : prunS P s = some v) : (∀ w, s.run P w = .ok v w) ∧ VRel m v v := by
  unfold prunS at h
  rw [Option.bind_eq_some_iff] at h
  obtain ⟨u, h1, h2⟩ := h
  cases hf : flat u with
  | false => rw [hf] at h2; simp at h2
  | true => rw [hf] at h2; simp at h2; subst h2; exact ⟨prun_sound h1, flat_refl hf⟩

theorem run_underlying {P : Program} {t : TypeId} {d : TypeDesc} (h : P.underlying t = some d) (w : World) : (underlying t).run P w = .ok d w := by
  simp [underlying, h]
theorem run_typeInfo {P : Program} {t : TypeId} {i : TypeInfo} (h : P.info? t = some i) (w : World) : (typeInfo t).run P w = .ok i w := by
  simp [typeInfo, h]
theorem run_sizeOf {P : Program} {t : TypeId} {n : Nat} (h : tSize P t = some n) (w : World) : (sizeOf t).run P w = .ok n w := by
  unfold tSize at h
  rw [Option.map_eq_some_iff] at h
  obtain ⟨i, hi, rfl⟩ := h
  simp [sizeOf, run_typeInfo hi]
theorem run_zeroValue {P : Program} {t : TypeId} {z : Value} (h : tZero P t = some z) (w : World) : (zeroValue t).run P w = .ok z w := by
  unfold tZero at h
  rw [Option.bind_eq_some_iff] at h
  obtain ⟨i, hi, hz⟩ := h
  simp [zeroValue, run_typeInfo hi, hz]
theorem tAgg_spec {P : Program} {t : TypeId} {b : Bool} (h : tAgg P t = some b) : ∃ d, P.underlying t = some d ∧ (match d with | .struct _ => true | .array _ _ => true | _ => false) = b := by
  unfold tAgg at h
  rw [Option.map_eq_some_iff] at h
  exact h
theorem run_isAgg {P : Program} {t : TypeId} {b : Bool} (h : tAgg P t = some b) (w : World) : (isAgg t).run P w = .ok b w := by
  obtain ⟨d, hd, hb⟩ := tAgg_spec h
  simp only [isAgg, Sem.run_bind, run_underlying hd, Result.andThen_ok]
  cases d <;> simp at hb <;> subst hb <;> rfl
theorem tField_spec {P : Program} {t : TypeId} {i off : Nat} {ft : TypeId} (h : tField P t i = some (off, ft)) :
    ∃ fs f, P.underlying t = some (.struct fs) ∧ fs[i]? = some f ∧ f.offset = off ∧ f.type = ft := by
  unfold tField at h
  split at h
  · rename_i fs hu
    split at h
    · rename_i f hf
      simp at h
      exact ⟨fs, f, hu, hf, h.1, h.2⟩
    · cases h
  · cases h
theorem tSliceElem_spec {P : Program} {t e : TypeId} (h : tSliceElem P t = some e) : P.underlying t = some (.slice e) := by
  unfold tSliceElem at h
  split at h
  · rename_i e' hu; simp at h; rw [hu, h]
  · cases h
theorem tArray_spec {P : Program} {t e : TypeId} {n : Nat} (h : tArray P t = some (n, e)) : P.underlying t = some (.array n e) := by
  unfold tArray at h
  split at h
  · rename_i n' e' hu; simp at h; rw [hu, h.1, h.2]
  · cases h
theorem tMap_spec {P : Program} {t k e : TypeId} (h : tMap P t = some (k, e)) : P.underlying t = some (.map k e) := by
  unfold tMap at h
  split at h
  · rename_i n' e' hu; simp at h; rw [hu, h.1, h.2]
  · cases h
theorem tString_spec {P : Program} {t : TypeId} (h : tString P t = some true) : P.underlying t = some .string := by
  unfold tString at h
  rw [Option.map_eq_some_iff] at h
  obtain ⟨d, hd, hb⟩ := h
  cases d <;> simp at hb
  exact hd
theorem tPtr_spec {P : Program} {t : TypeId} (h : evBin.tPtr P t = true) : ∃ e, P.underlying t = some (.pointer e) := by
  unfold evBin.tPtr at h
  split at h
  · rename_i e hu; exact ⟨e, hu⟩
  · cases h

/-- A piece of an aggregate. -/
theorem evPart_sound {P : Program} {m : Mp} {t : TypeId} {cs cs' : List Value} {off : Nat} {v : Value} (h : evPart P t cs off = some v) (hr : VL m cs cs') :
    ∃ v', (∀ w, (part t cs'.toArray off).run P w = .ok v' w) ∧ VRel m v v' := by
  unfold evPart at h
  split at h
  · rename_i ha
    rw [Option.bind_eq_some_iff] at h
    obtain ⟨n, hn, h⟩ := h
    cases hd : decide (off + n ≤ cs.length) with
    | false => rw [hd] at h; simp at h
    | true =>
      rw [hd] at h; simp at h; subst h
      refine ⟨.agg ((cs'.drop off).take n).toArray, fun w => ?_, .agg ?_⟩
      · simp only [part, Sem.run_bind, run_isAgg ha, Result.andThen_ok, if_true, run_sizeOf hn, Sem.run_pure]
        congr 2
        apply Array.toList_inj.1
        simp
      · simpa using (hr.drop off).take n
  · rename_i ha
    obtain ⟨v', e', r⟩ := hr.getElem? off h
    refine ⟨v', fun w => ?_, r⟩
    simp only [part, Sem.run_bind, run_isAgg ha, Result.andThen_ok]
    simp [e']
  · cases h

theorem evField_sound {P : Program} {m : Mp} {t : TypeId} {x x' v : Value} {i : Nat} (h : evField P t x i = some v) (hr : VRel m x x') :
    ∃ v', (∀ w, (Instr.field t x' i).run P w = .ok v' w) ∧ VRel m v v' := by
  unfold evField at h
  split at h
  · rename_i cs off ft hf
    cases hr with
    | agg hr =>
      rename_i cs'
      obtain ⟨v', h1, h2⟩ := evPart_sound h hr
      obtain ⟨fs, f, hu, hf2, rfl, rfl⟩ := tField_spec hf
      exact ⟨v', fun w => by simp [Instr.field, run_underlying hu, hf2, asAgg]; simpa using h1 w, h2⟩
  · cases h

theorem Addr_add0 (a : Addr) (h : a.spot = none) (n : Nat) : a.add n = ⟨a.block, a.off + n, none⟩ := by
  unfold Addr.add
  split
  · rename_i h0; subst h0; cases a; simp_all
  · rfl

theorem evFieldAddr_sound {P : Program} {m : Mp} {t : TypeId} {x x' v : Value} {i : Nat} (h : evFieldAddr P t x i = some v) (hr : VRel m x x') :
    ∃ v', (∀ w, (Instr.fieldAt t x' i).run P w = .ok v' w) ∧ VRel m v v' := by
  unfold evFieldAddr at h
  split at h
  · rename_i b o off ft hf
    split at h
    · rename_i n hn
      simp at h; subst h
      cases hr with
      | ptr hL =>
        obtain ⟨fs, f, hu, hf2, rfl, rfl⟩ := tField_spec hf
        refine ⟨_, fun w => ?_, .ptr hL⟩
        simp [Instr.fieldAt, run_underlying hu, hf2, Instr.sureAddr, fieldPlace, run_sizeOf hn, Addr_add0]
    · cases h
  · cases h

theorem evIndexAddr_sound {P : Program} {m : Mp} {t : TypeId} {x x' ix ix' v : Value} (h : evIndexAddr P t x ix = some v) (hr : VRel m x x') (hi : VRel m ix ix') :
    ∃ v', (∀ w, (Instr.indexAt t x' ix').run P w = .ok v' w) ∧ VRel m v v' := by
  unfold evIndexAddr at h
  split at h
  · rename_i b o len cap k i
    cases hi
    simp only [Option.bind_eq_some_iff] at h
    obtain ⟨e, he, n, hn, h⟩ := h
    cases hd : (decide (0 ≤ i) && decide (i < len)) with
    | false => rw [hd] at h; simp at h
    | true =>
      rw [hd] at h; simp at h hd; subst h
      cases hr with
      | slc hL hl hc ha =>
        rename_i cap' L a
        have hne : cap' ≠ 0 := by
          have : 0 < cap / 2 := by omega
          omega
        have ha := ha.resolve_right hne
        subst ha
        refine ⟨_, fun w => ?_, .ptr hL⟩
        simp [Instr.indexAt, asIntOf, run_underlying (tSliceElem_spec he), hd, run_sizeOf hn, Addr_add0]
  · rename_i b o k i
    cases hi
    simp only [Option.bind_eq_some_iff] at h
    obtain ⟨⟨len, e⟩, he, n, hn, h⟩ := h
    cases hd : (decide (0 ≤ i) && decide (i < len)) with
    | false => rw [hd] at h; simp at h
    | true =>
      rw [hd] at h; simp at h hd; subst h
      cases hr with
      | ptr hL =>
        refine ⟨_, fun w => ?_, .ptr hL⟩
        simp [Instr.indexAt, asIntOf, run_underlying (tArray_spec he), Instr.sureAddr, hd, run_sizeOf hn, Addr_add0]
  · cases h

theorem evIndex_sound {P : Program} {m : Mp} {t : TypeId} {x x' ix ix' v : Value} (h : evIndex P t x ix = some v) (hr : VRel m x x') (hi : VRel m ix ix') :
    ∃ v', (∀ w, (Instr.index t x' ix').run P w = .ok v' w) ∧ VRel m v v' := by
  unfold evIndex at h
  split at h
  · rename_i s k i
    cases hi; cases hr
    cases hd : ((tString P t == some true) && decide (0 ≤ i)) with
    | false => rw [hd] at h; simp at h
    | true =>
      rw [hd] at h; simp at h hd
      obtain ⟨b, hb, rfl⟩ := h
      refine ⟨_, fun w => ?_, .int _ _⟩
      simp [Instr.index, asIntOf, run_underlying (tString_spec hd.1), hd.2, hb]
  · rename_i cs k i
    cases hi
    simp only [Option.bind_eq_some_iff] at h
    obtain ⟨⟨len, e⟩, he, n, hn, h⟩ := h
    cases hd : (decide (0 ≤ i) && decide (i < len)) with
    | false => rw [hd] at h; simp at h
    | true =>
      rw [hd] at h; simp at h hd
      cases hr with
      | agg hr =>
        obtain ⟨v', h1, h2⟩ := evPart_sound h hr
        refine ⟨v', fun w => ?_, h2⟩
        simp [Instr.index, asIntOf, run_underlying (tArray_spec he), hd, run_sizeOf hn]
        simpa using h1 w
  · cases h

inductive VO (m : Mp) : Option Value → Option Value → Prop
  | none : VO m none none
  | some {a b : Value} (h : VRel m a b) : VO m (some a) (some b)

/-- What a bound that is there, or is not there, comes to. -/
theorem bound_some {m : Mp} {v v' : Value} {d lim n : Nat} (h : bound (some v) d lim = some n) (hx : VRel m v v') :
    n ≤ lim ∧ ∀ P lim' code, lim ≤ lim' → ∀ w, (Instr.sliceBound v' lim' code).run P w = .ok n w := by
  cases v <;> simp [bound] at h
  rename_i k i
  cases hx
  cases hd : (decide (0 ≤ i) && decide (i ≤ (lim : Int))) with
  | false => rw [hd] at h; simp at h
  | true =>
    rw [hd] at h; simp at h hd; subst h
    refine ⟨by omega, fun P lim' code hl w => ?_⟩
    simp [Instr.sliceBound, asIntOf, hd.1, show i ≤ (lim' : Int) by omega]
theorem bound_none {d lim n : Nat} (h : bound none d lim = some n) : n = d := by simp [bound] at h; exact h.symm

theorem evSlice_sound {P : Program} {m : Mp} {t : TypeId} {x x' v : Value} {lo hi mx lo' hi' mx' : Option Value} (h : evSlice P t x lo hi mx = some v)
    (hr : VRel m x x') (hlo : VO m lo lo') (hhi : VO m hi hi') (hmx : VO m mx mx') :
    ∃ v', (∀ w, (Instr.sliceAt t x' lo' hi' mx').run P w = .ok v' w) ∧ VRel m v v' := by
  unfold evSlice at h
  split at h
  · rename_i s
    cases hr
    cases hd : ((tString P t == some true) && mx.isNone) with
    | false => rw [hd] at h; simp at h
    | true =>
      rw [hd] at h; simp only [cond_true, Bool.and_eq_true, beq_iff_eq, Option.isNone_iff_eq_none, Option.bind_eq_some_iff, Option.some.injEq] at h hd
      obtain ⟨ht, rfl⟩ := hd
      cases hmx
      obtain ⟨b, hb, a, ha, rfl⟩ := h
      refine ⟨_, fun w => ?_, .string _⟩
      have hu := tString_spec ht
      simp only [Instr.sliceAt, Sem.run_bind, run_underlying hu, Result.andThen_ok, Instr.slice, Instr.sliceBounds]
      cases hhi with
      | none =>
        have := bound_none hb; subst this
        cases hlo with
        | none => have := bound_none ha; subst this; simp
        | some h2 => obtain ⟨h3, h4⟩ := bound_some ha h2; simp [h4 P s.size _ (Nat.le_refl _)]
      | some h1 =>
        obtain ⟨h5, h6⟩ := bound_some hb h1
        cases hlo with
        | none => have := bound_none ha; subst this; simp [h6 P s.size _ (Nat.le_refl _)]
        | some h2 => obtain ⟨h3, h4⟩ := bound_some ha h2; simp [h6 P s.size _ (Nat.le_refl _), h4 P b _ (Nat.le_refl _)]
  · rename_i a len cap
    simp only [Option.bind_eq_some_iff] at h
    obtain ⟨e, he, n, hn, h⟩ := h
    have hu := tSliceElem_spec he
    -- what the true slice is
    obtain ⟨a', cap', rfl, hcap, hlen, hkind⟩ : ∃ a' cap', x' = .slice a' len cap' ∧ cap / 2 ≤ cap' ∧ len ≤ cap / 2 ∧
        ((a = none ∧ a' = none ∧ len = 0 ∧ cap = 0 ∧ cap' = 0) ∨
          ∃ b o L c', a = some ⟨b, o, none⟩ ∧ a' = some c' ∧ m b = some L ∧ cap' = cap / 2 + (cap % 2) * L.extra ∧ (c' = ⟨L.blk, o, none⟩ ∨ cap' = 0)) := by
      cases hr with
      | nils => exact ⟨none, 0, rfl, by omega, by omega, .inl ⟨rfl, rfl, rfl, rfl, rfl⟩⟩
      | slc hL hl hc ha => exact ⟨_, _, rfl, by omega, hl, .inr ⟨_, _, _, _, rfl, rfl, hL, hc, ha⟩⟩
    cases hmx with
    | none =>
      simp only [Option.bind_eq_some_iff, Option.some.injEq] at h
      obtain ⟨b, hb, l, hl, rfl⟩ := h
      have hbl : b ≤ cap / 2 ∧ l ≤ b := by
        refine ⟨?_, ?_⟩
        · cases hhi with
          | none => have := bound_none hb; omega
          | some h1 => exact (bound_some hb h1).1
        · cases hlo with
          | none => have := bound_none hl; omega
          | some h1 => exact (bound_some hl h1).1
      have hrun : ∀ w, (Instr.sliceAt t (.slice a' len cap') lo' hi' none).run P w = .ok (.slice (if cap' = l then a' else a'.map (·.add (l * n))) (b - l) (cap' - l)) w := by
        intro w
        simp only [Instr.sliceAt, Sem.run_bind, run_underlying hu, Result.andThen_ok, Instr.slice, Instr.sliceBounds]
        cases hhi with
        | none =>
          have := bound_none hb; subst this
          cases hlo with
          | none => have := bound_none hl; subst this; simp [run_sizeOf hn]
          | some h2 => obtain ⟨h3, h4⟩ := bound_some hl h2; simp [h4 P b _ (Nat.le_refl _), run_sizeOf hn]
        | some h1 =>
          obtain ⟨h5, h6⟩ := bound_some hb h1
          cases hlo with
          | none => have := bound_none hl; subst this; simp [h6 P cap' _ hcap, run_sizeOf hn]
          | some h2 => obtain ⟨h3, h4⟩ := bound_some hl h2; simp [h6 P cap' _ hcap, h4 P b _ (Nat.le_refl _), run_sizeOf hn]
      refine ⟨_, hrun, ?_⟩
      rcases hkind with ⟨rfl, rfl, rfl, rfl, rfl⟩ | ⟨b0, o, L, c', rfl, rfl, hL, hc, hor⟩
      · have e1 : b = 0 := by omega
        have e2 : l = 0 := by omega
        subst e1; subst e2
        simp
        exact .nils
      · simp only [Option.map_some]
        have hx : ∀ c'' : Addr, (c'' = ⟨L.blk, o + l * n, none⟩ ∨ cap' - l = 0) → VRel m (.slice (some ⟨b0, o + l * n, none⟩) (b - l) (2 * (cap / 2 - l) + cap % 2)) (.slice (some c'') (b - l) (cap' - l)) := by
          intro c'' hc''
          refine .slc hL (by omega) ?_ hc''
          rw [show (2 * (cap / 2 - l) + cap % 2) / 2 = cap / 2 - l by omega, show (2 * (cap / 2 - l) + cap % 2) % 2 = cap % 2 by omega]
          omega
        by_cases hcl : cap' = l
        · rw [if_pos hcl]
          exact hx c' (.inr (by omega))
        · rw [if_neg hcl]
          refine hx _ (.inl ?_)
          have := hor.resolve_right (by omega)
          subst this
          rw [Addr_add0 _ rfl]
    | some hm =>
      rename_i mv mv'
      cases mv <;> simp only at h <;> try (exact absurd h (by simp))
      rename_i mk mi
      simp only [Option.bind_eq_some_iff] at h
      obtain ⟨mm, hmm, b, hb, l, hl, h⟩ := h
      obtain ⟨hm1, hm2⟩ := bound_some hmm hm
      cases hhi with
      | none => simp at h
      | some h1 =>
        rename_i hiv hiv'
        simp at h; subst h
        obtain ⟨h5, h6⟩ := bound_some hb h1
        have hbl : l ≤ b := by
          cases hlo with
          | none => have := bound_none hl; omega
          | some h1 => exact (bound_some hl h1).1
        have hrun : ∀ w, (Instr.sliceAt t (.slice a' len cap') lo' (some hiv') (some mv')).run P w = .ok (.slice (if mm = l then a' else a'.map (·.add (l * n))) (b - l) (mm - l)) w := by
          intro w
          simp only [Instr.sliceAt, Sem.run_bind, run_underlying hu, Result.andThen_ok, Instr.slice, Instr.sliceBounds]
          cases hlo with
          | none => have := bound_none hl; subst this; simp [hm2 P cap' _ hcap, h6 P mm _ (Nat.le_refl _), run_sizeOf hn]
          | some h2 => obtain ⟨h3, h4⟩ := bound_some hl h2; simp [hm2 P cap' _ hcap, h6 P mm _ (Nat.le_refl _), h4 P b _ (Nat.le_refl _), run_sizeOf hn]
        refine ⟨_, hrun, ?_⟩
        rcases hkind with ⟨rfl, rfl, rfl, rfl, rfl⟩ | ⟨b0, o, L, c', rfl, rfl, hL, hc, hor⟩
        · have e1 : b = 0 := by omega
          have e2 : l = 0 := by omega
          have e3 : mm = 0 := by omega
          subst e1; subst e2; subst e3
          simp
          exact .nils
        · simp only [Option.map_some]
          by_cases hcl : mm = l
          · rw [if_pos hcl, if_pos hcl]
            refine .slc hL (by omega) (by rw [show 2 * (mm - l) / 2 = mm - l by omega, show 2 * (mm - l) % 2 = 0 by omega]; simp) (.inr (by omega))
          · rw [if_neg hcl, if_neg hcl]
            have := hor.resolve_right (by omega)
            subst this
            rw [Addr_add0 _ rfl]
            exact .slc hL (by omega) (by rw [show 2 * (mm - l) / 2 = mm - l by omega, show 2 * (mm - l) % 2 = 0 by omega]; simp) (.inl rfl)
  · cases h

end Go.Ev
