/- Regions that draw their order: each operation keeps the invariant; the theorem. -/
import Derived.Test.YtncmgiddcefpcaaDoorEvQ
namespace Go.Ev
open Go
set_option linter.unusedSimpArgs false
set_option linter.unusedVariables false

section
variable {E : Env}

/-- An operation that is no effect and makes no block keeps the invariant. -/
theorem Env.Inv.quiet (K : E.OK) {listed : Array Bool} {a : Act} {w : World} {m mp : Mp} {k : Nat} (I : E.Inv listed a w m mp k) {q j : Nat} (hj : E.L[q]? = some j) (hun : listed.getD j false = false)
    (hready : ∀ e ∈ (E.O q).after, Region.binds .any e = true → listed.getD e.on false = true) (hk : kindOf E.P (E.O q) ≠ .eff) (hnew : kindOf E.P (E.O q) = .new → E.B q = false) {v' : Value} (hv : VRel mp (E.V q) v') :
    E.Inv (listed.setIfInBounds j true) (a.put (E.O q).dst v') w m mp k := by
  obtain ⟨h1, h2, h3, h4⟩ := I.listed_set K hj hready
  have hne : ∀ p i : Nat, E.L[p]? = some i → kindOf E.P (E.O p) = .eff → i ≠ j := fun p i hi hki hij => by
    subst hij; have := K.pos hi hj; subst this; exact hk hki
  have hearly : ∀ p, E.Early (listed.setIfInBounds j true) k p → E.Early listed k p := by
    rintro p ⟨g1, i, g2, g3, g4, g5⟩
    refine ⟨g1, i, g2, g3, g4, ?_⟩
    rw [h4 i] at g5
    · exact g5
    · intro hij; subst hij; have := K.pos g2 hj; subst this
      rw [hnew g3] at g4; cases g4
  have hearly' : ∀ p, E.Early listed k p → E.Early (listed.setIfInBounds j true) k p := by
    rintro p ⟨g1, i, g2, g3, g4, g5⟩
    refine ⟨g1, i, g2, g3, g4, ?_⟩
    by_cases hij : i = j
    · subst hij; exact h3
    · rw [h4 i hij]; exact g5
  refine ⟨h1, h2, I.hK, fun p i hi hki => ?_, I.kb, fun p i hp hi hki => ?_, I.rep, I.step, I.le, fun b L' hb => ?_, fun p hp => I.early p (hearly p hp), I.frel_put K hj hun (Mp.le_refl _) hv, ?_, ?_⟩
  · rw [h4 i (hne p i hi hki)]; exact I.effs p i hi hki
  · by_cases hij : i = j
    · subst hij; exact h3
    · rw [h4 i hij]; exact I.news p i hp hi hki
  · rcases I.mp2 b L' hb with g | ⟨p, g1, g2⟩
    · exact .inl g
    · exact .inr ⟨p, hearly' p g1, g2⟩
  · cases hd : (E.O q).dst <;> simp [Act.put, I.tsz]
  · rw [put_defers]; exact I.df

/-- An operation that makes a block. -/
theorem Env.Inv.fresh (K : E.OK) {listed : Array Bool} {a : Act} {w : World} {m mp : Mp} {k : Nat} (I : E.Inv listed a w m mp k) {q j : Nat} (hj : E.L[q]? = some j) (hun : listed.getD j false = false)
    (hready : ∀ e ∈ (E.O q).after, Region.binds .any e = true → listed.getD e.on false = true) (hk : kindOf E.P (E.O q) = .new) (hb : E.B q = true)
    {ob : Ob} {mk : Nat → Value} (hn : evNew E.P (E.S q).fr (E.O q) = some (ob, mk)) {ob' : Obj} (hob : ObRel mp ob ob') {v' : Value}
    (hv : ∀ (m' : Mp), m' (E.S q).h.next = some ⟨w.heap.size, 0⟩ → VRel m' (E.V q) v') :
    E.Inv (listed.setIfInBounds j true) (a.put (E.O q).dst v') { w with heap := w.heap.push ob' } m (mp.upd (E.S q).h.next ⟨w.heap.size, 0⟩) k := by
  obtain ⟨h1, h2, h3, h4⟩ := I.listed_set K hj hready
  have hq := lt_of_get hj
  have hkq : k ≤ q := by
    rcases Nat.lt_or_ge q k with h | h
    · have := I.news q j h hj hk; rw [hun] at this; cases this
    · exact h
  have hnone : mp (E.S q).h.next = none := by
    cases hm : mp (E.S q).h.next with
    | none => rfl
    | some L' =>
      exfalso
      rcases I.mp2 _ _ hm with g | ⟨p, ⟨g1, i, g2, g3, g4, g5⟩, g6⟩
      · have := (I.rep.frs _ (K.mono' hkq (Nat.le_of_lt hq))).2
        rw [this] at g; cases g
      · rcases Nat.lt_trichotomy p q with h | h | h
        · have := K.apart g2 hj g3 g4 h; omega
        · subst h; rw [hj] at g2; cases g2; rw [hun] at g5; cases g5
        · have := K.apart hj g2 hk hb h; omega
  have hle : mp.le (mp.upd (E.S q).h.next ⟨w.heap.size, 0⟩) := Mp.le_upd hnone
  have hne : ∀ p i : Nat, E.L[p]? = some i → kindOf E.P (E.O p) = .eff → i ≠ j := fun p i hi hki hij => by
    subst hij; have := K.pos hi hj; subst this; rw [hk] at hki; cases hki
  have hup : ∀ i, listed.getD i false = true → (listed.setIfInBounds j true).getD i false = true := fun i hi => by
    by_cases hij : i = j
    · subst hij; exact h3
    · rw [h4 i hij]; exact hi
  have hrange : ∀ b L', mp b = some L' → L'.blk < w.heap.size := fun b L' hb' => by
    rcases I.mp2 b L' hb' with g | ⟨p, g1, g2⟩
    · exact I.rep.rng b L' g
    · obtain ⟨_, _, c, _, _, e2, e3, _⟩ := I.early p g1
      rw [g2, e2] at hb'; cases hb'
      exact (Array.getElem?_eq_some_iff.1 e3).1
  refine ⟨h1, h2, I.hK, fun p i hi hki => ?_, I.kb, fun p i hp hi hki => hup _ (I.news p i hp hi hki), I.rep.junk ob', I.step.junk ob', Mp.le_trans I.le hle, fun b L' hb' => ?_, fun p hp => ?_, I.frel_put K hj hun hle (hv _ (Mp.upd_self _ _ _)), ?_, ?_⟩
  · rw [h4 i (hne p i hi hki)]; exact I.effs p i hi hki
  · unfold Mp.upd at hb'
    split at hb'
    · rename_i hbq
      exact .inr ⟨q, ⟨hkq, j, hj, hk, hb, h3⟩, hbq⟩
    · rcases I.mp2 b L' hb' with g | ⟨p, ⟨g1, i, g2, g3, g4, g5⟩, g6⟩
      · exact .inl g
      · exact .inr ⟨p, ⟨g1, i, g2, g3, g4, hup _ g5⟩, g6⟩
  · by_cases hpq : p = q
    · subst hpq
      refine ⟨ob, mk, w.heap.size, ob', hn, Mp.upd_self _ _ _, by simp, hob.mono hle, fun b L' hm he => ?_, fun b L' hm he => ?_, I.step.size⟩
      · have := I.rep.rng b L' hm; omega
      · unfold Mp.upd at hm
        split at hm
        · assumption
        · have := hrange b L' hm; omega
    · obtain ⟨g1, i, g2, g3, g4, g5⟩ := hp
      have hij : i ≠ j := fun h => hpq (by subst h; exact K.pos g2 hj)
      rw [h4 i hij] at g5
      obtain ⟨ob1, mk1, c, ob1', e1, e2, e3, e4, e5, e6, e7⟩ := I.early p ⟨g1, i, g2, g3, g4, g5⟩
      have hc := (Array.getElem?_eq_some_iff.1 e3).1
      refine ⟨ob1, mk1, c, ob1', e1, hle _ _ e2, ?_, e4.mono hle, e5, fun b L' hm he => ?_, e7⟩
      · simp only [Array.getElem?_push]; rw [if_neg (by omega)]; exact e3
      · unfold Mp.upd at hm
        split at hm
        · cases hm; simp at he; omega
        · exact e6 b L' hm he
  · cases hd : (E.O q).dst <;> simp [Act.put, I.tsz]
  · rw [put_defers]; exact I.df

/-- Up to an effect that is at hand: all blocks of the canonical run are there. -/
theorem Env.Inv.commit (K : E.OK) {listed : Array Bool} {a : Act} {w : World} {m mp : Mp} {k : Nat} (I : E.Inv listed a w m mp k) {q j : Nat} (hj : E.L[q]? = some j) (hun : listed.getD j false = false)
    (hready : ∀ e ∈ (E.O q).after, Region.binds .any e = true → listed.getD e.on false = true) (hk : kindOf E.P (E.O q) = .eff) :
    k ≤ q ∧ ∀ d, k + d ≤ q → ∃ mc : Mp, Rep E.P mc (E.S (k + d)).h w ∧ Step E.m0 E.h0 E.w0 mc (E.S (k + d)).h w ∧ mc.le mp ∧ (∀ b, b < (E.S (k + d)).h.next → mp b = mc b) := by
  have hq := lt_of_get hj
  have hkq : k ≤ q := by
    rcases Nat.lt_or_ge q k with h | h
    · have := (I.effs q j hj hk).2 h; rw [hun] at this; cases this
    · exact h
  refine ⟨hkq, fun d => ?_⟩
  induction d with
  | zero =>
    intro _
    refine ⟨m, I.rep, I.step, I.le, fun b hb => ?_⟩
    cases hm : m b with
    | some L' => exact I.le _ _ hm
    | none =>
      cases hmp : mp b with
      | none => rfl
      | some L' =>
        exfalso
        rcases I.mp2 b L' hmp with g | ⟨p, ⟨g1, i, g2, _⟩, g6⟩
        · rw [hm] at g; cases g
        · have := K.mono' g1 (Nat.le_of_lt (lt_of_get g2))
          simp at hb; omega
  | succ d ih =>
    intro hd
    obtain ⟨mc, r, s, hle, hag⟩ := ih (by omega)
    have hp : k + d < E.L.length := by omega
    have hi : E.L[k + d]? = some E.L[k + d] := List.getElem?_eq_getElem hp
    have same : (E.S (k + d + 1)).h = (E.S (k + d)).h → ∃ mc : Mp, Rep E.P mc (E.S (k + (d + 1))).h w ∧ Step E.m0 E.h0 E.w0 mc (E.S (k + (d + 1))).h w ∧ mc.le mp ∧ (∀ b, b < (E.S (k + (d + 1))).h.next → mp b = mc b) := by
      intro h
      rw [show k + (d + 1) = k + d + 1 by omega, h]
      exact ⟨mc, r, s, hle, hag⟩
    cases hb : E.B (k + d) with
    | false => exact same (K.can.no _ _ hi hb).2
    | true =>
      have he := K.can.yes _ _ hi hb
      cases hkp : kindOf E.P (E.O (k + d)) with
      | pure =>
        unfold evOp at he; rw [hkp] at he
        simp only [Option.map_eq_some_iff, Prod.mk.injEq] at he
        obtain ⟨_, _, _, h⟩ := he
        exact same h.symm
      | read =>
        unfold evOp at he; rw [hkp] at he
        simp only [Option.map_eq_some_iff, Prod.mk.injEq] at he
        obtain ⟨_, _, _, h⟩ := he
        exact same h.symm
      | eff =>
        exfalso
        rcases K.look.pair (k + d) q _ j (by omega) hi hj with h1 | ⟨_, h2⟩
        · have := closed_bit I.closed j (E.O q) (K.can.op q j hj) hready _ h1
          have := (I.effs _ _ hi hkp).1 this
          omega
        · exact h2 ⟨by rw [K.can.kind hj]; exact hk, .inl (by rw [K.can.kind hi]; exact hkp)⟩
      | new =>
        have hlist : listed.getD E.L[k + d] false = true := by
          rcases K.look.pair (k + d) q _ j (by omega) hi hj with h1 | ⟨_, h2⟩
          · exact closed_bit I.closed j (E.O q) (K.can.op q j hj) hready _ h1
          · exact absurd ⟨by rw [K.can.kind hj]; exact hk, .inr (by rw [K.can.kind hi]; exact hkp)⟩ h2
        obtain ⟨ob, mk, c, ob', e1, e2, e3, e4, e5, e6, e7⟩ := I.early (k + d) ⟨by omega, _, hi, hkp, hb, hlist⟩
        obtain ⟨ob2, mk2, f1, f2, f3⟩ := K.new hi hkp hb
        rw [e1] at f1; cases f1
        obtain ⟨mcan, acan, wcan, c1, c2, _⟩ := K.sim (k + d) (Nat.le_of_lt hp)
        obtain ⟨obc, mkc, _, hobc, _⟩ := evNew_sound c1 e1
        have hagree : ∀ b, mcan b ≠ none → mc b = mp b := fun b hbn => by
          have : b < (E.S (k + d)).h.next := by
            rcases Nat.lt_or_ge b (E.S (k + d)).h.next with h | h
            · exact h
            · exact absurd (c2.frs b h).2 hbn
          exact (hag b this).symm
        have hobm : ObRel mc ob ob' := by
          rcases e4 with ⟨cs, cs', el, g1, g2, g3⟩ | g
          · rcases hobc with ⟨cs2, cs2', el2, k1, k2, k3⟩ | ⟨k1, k2⟩
            · rw [g1] at k1; cases k1
              exact .inl ⟨cs, cs', el, g1, g2, k3.swap g3 hagree⟩
            · rw [g1] at k1; cases k1
          · exact .inr g
        have hunm : ∀ b L', mc b = some L' → L'.blk ≠ c := fun b L' hb' hc => by
          have := e6 b L' (hle _ _ hb') hc
          have h2 := (r.frs b (by omega)).2
          rw [h2] at hb'; cases hb'
        refine ⟨mc.upd (E.S (k + d)).h.next ⟨c, 0⟩, ?_, ?_, ?_, ?_⟩
        · rw [show k + (d + 1) = k + d + 1 by omega, f3]; exact r.commit e3 hunm hobm
        · rw [show k + (d + 1) = k + d + 1 by omega, f3]; exact Step.commit r s ob e7
        · intro b L' hb'
          unfold Mp.upd at hb'
          split at hb'
          · rename_i hbn; subst hbn; cases hb'; exact e2
          · exact hle _ _ hb'
        · intro b hb'
          rw [show k + (d + 1) = k + d + 1 by omega, f3, Hp.next_push] at hb'
          unfold Mp.upd
          split
          · rename_i hbn; subst hbn; exact e2
          · exact hag b (by omega)

/-- Behind an effect. -/
theorem Env.Inv.moved (K : E.OK) {listed : Array Bool} {a : Act} {w : World} {m mp : Mp} {k : Nat} (I : E.Inv listed a w m mp k) {q j : Nat} (hj : E.L[q]? = some j) (hun : listed.getD j false = false)
    (hready : ∀ e ∈ (E.O q).after, Region.binds .any e = true → listed.getD e.on false = true) (hk : kindOf E.P (E.O q) = .eff) (hkq : k ≤ q) {mc : Mp} (r : Rep E.P mc (E.S q).h w) (s : Step E.m0 E.h0 E.w0 mc (E.S q).h w) (hle : mc.le mp)
    (hag : ∀ b, b < (E.S q).h.next → mp b = mc b) {m' : Mp} {w' : World} (r' : Rep E.P m' (E.S (q + 1)).h w') (s' : Step mc (E.S q).h w m' (E.S (q + 1)).h w') {v' : Value} (hv : VRel m' (E.V q) v') :
    E.Inv (listed.setIfInBounds j true) (a.put (E.O q).dst v') w' m' (fun b => if b < (E.S (q + 1)).h.next then m' b else mp b) (q + 1) := by
  obtain ⟨h1, h2, h3, h4⟩ := I.listed_set K hj hready
  have hq := lt_of_get hj
  have hnx := s'.next
  have hle1 : m'.le (fun b => if b < (E.S (q + 1)).h.next then m' b else mp b) := fun b L' hb => by
    have : b < (E.S (q + 1)).h.next := by
      rcases Nat.lt_or_ge b (E.S (q + 1)).h.next with h | h
      · exact h
      · have := (r'.frs b h).2; rw [this] at hb; cases hb
    simp only [if_pos this]; exact hb
  -- a number of the old map that lies in no committed heap
  have hfar : ∀ b L', mp b = some L' → (E.S q).h.next ≤ b → ∃ p, E.Early listed k p ∧ q < p ∧ b = (E.S p).h.next ∧ (E.S (q + 1)).h.next ≤ b := by
    intro b L' hb hge
    rcases I.mp2 b L' hb with g | ⟨p, g1, g2⟩
    · have := (I.rep.frs b (Nat.le_trans (K.mono' hkq (Nat.le_of_lt hq)) hge)).2
      rw [this] at g; cases g
    · obtain ⟨e1, i, e2, e3, e4, e5⟩ := g1
      have hqp : q < p := by
        rcases Nat.lt_trichotomy p q with h | h | h
        · have := K.apart e2 hj e3 e4 h; omega
        · subst h; rw [hk] at e3; cases e3
        · exact h
      refine ⟨p, ⟨e1, i, e2, e3, e4, e5⟩, hqp, g2, ?_⟩
      rw [g2]; exact K.mono' (by omega) (Nat.le_of_lt (lt_of_get e2))
  have hle2 : mp.le (fun b => if b < (E.S (q + 1)).h.next then m' b else mp b) := fun b L' hb => by
    by_cases hlt : b < (E.S q).h.next
    · have : b < (E.S (q + 1)).h.next := by omega
      simp only [if_pos this]
      rw [hag b hlt] at hb
      exact s'.le _ _ hb
    · obtain ⟨p, _, _, _, g⟩ := hfar b L' hb (by omega)
      simp only [if_neg (show ¬ b < (E.S (q + 1)).h.next by omega)]; exact hb
  have hup : ∀ i, listed.getD i false = true → (listed.setIfInBounds j true).getD i false = true := fun i hi => by
    by_cases hij : i = j
    · subst hij; exact h3
    · rw [h4 i hij]; exact hi
  refine ⟨h1, h2, by omega, fun p i hi hki => ?_, .inr ⟨q, j, rfl, hj, hk⟩, fun p i hp hi hki => ?_, r', s.trans s', hle1, fun b L' hb => ?_, fun p hp => ?_, I.frel_put K hj hun hle2 (hv.mono hle1), ?_, ?_⟩
  · by_cases hij : i = j
    · subst hij
      have := K.pos hi hj; subst this
      exact ⟨fun _ => by omega, fun _ => h3⟩
    · rw [h4 i hij, I.effs p i hi hki]
      have hpq : p ≠ q := fun h => hij (by subst h; rw [hi] at hj; cases hj; rfl)
      constructor
      · intro h; omega
      · intro h
        rcases K.look.pair p q i j (by omega) hi hj with g1 | ⟨_, g2⟩
        · exact (I.effs p i hi hki).1 (closed_bit I.closed j (E.O q) (K.can.op q j hj) hready _ g1)
        · exact absurd ⟨by rw [K.can.kind hj]; exact hk, .inl (by rw [K.can.kind hi]; exact hki)⟩ g2
  · by_cases hpq : p = q
    · subst hpq; rw [hk] at hki; cases hki
    · rcases K.look.pair p q i j (by omega) hi hj with g1 | ⟨_, g2⟩
      · exact hup _ (closed_bit I.closed j (E.O q) (K.can.op q j hj) hready _ g1)
      · exact absurd ⟨by rw [K.can.kind hj]; exact hk, .inr (by rw [K.can.kind hi]; exact hki)⟩ g2
  · replace hb : (if b < (E.S (q + 1)).h.next then m' b else mp b) = some L' := hb
    split at hb
    · exact .inl hb
    · rename_i hge
      obtain ⟨p, ⟨e1, i, e2, e3, e4, e5⟩, g2, g3, _⟩ := hfar b L' hb (by omega)
      exact .inr ⟨p, ⟨by omega, i, e2, e3, e4, hup _ e5⟩, g3⟩
  · obtain ⟨g1, i, g2, g3, g4, g5⟩ := hp
    have hij : i ≠ j := fun h => by subst h; have := K.pos g2 hj; omega
    rw [h4 i hij] at g5
    obtain ⟨ob1, mk1, c, ob1', e1, e2, e3, e4, e5, e6, e7⟩ := I.early p ⟨by omega, i, g2, g3, g4, g5⟩
    have hc := (Array.getElem?_eq_some_iff.1 e3).1
    have hpn : (E.S (q + 1)).h.next ≤ (E.S p).h.next := K.mono' (by omega) (Nat.le_of_lt (lt_of_get g2))
    have hmcc : ∀ b L', mc b = some L' → L'.blk ≠ c := fun b L' hb he => by
      have h5 := e6 b L' (hle _ _ hb) he
      have h6 := (r.frs b (by omega)).2
      rw [h6] at hb; cases hb
    have hm'c : ∀ b L', m' b = some L' → L'.blk ≠ c := fun b L' hb he => by
      obtain ⟨b0, L0, k1, k2⟩ := s'.old b L' hb (by omega)
      exact hmcc b0 L0 k1 (by omega)
    refine ⟨ob1, mk1, c, ob1', e1, hle2 _ _ e2, ?_, e4.mono hle2, hm'c, fun b L' hb he => ?_, e7⟩
    · rw [s'.same c hc fun b L' _ hb => hmcc b L' hb]; exact e3
    · replace hb : (if b < (E.S (q + 1)).h.next then m' b else mp b) = some L' := hb
      split at hb
      · exact absurd he (hm'c b L' hb)
      · exact e6 b L' hb he
  · cases hd : (E.O q).dst <;> simp [Act.put, I.tsz]
  · rw [put_defers]; exact I.df
end

section
variable {E : Env}

/-- The heap of a boundary, at what a read looks at. -/
theorem Env.Inv.read_ok (K : E.OK) {listed : Array Bool} {a : Act} {w : World} {m mp : Mp} {k : Nat} (I : E.Inv listed a w m mp k) {q j : Nat} (hj : E.L[q]? = some j) (hun : listed.getD j false = false)
    (hready : ∀ e ∈ (E.O q).after, Region.binds .any e = true → listed.getD e.on false = true) (hk : kindOf E.P (E.O q) = .read) (hb : E.B q = true) :
    evReadOrPure E.P (E.S q).fr (E.O q) (E.S k).h = some (E.V q) := by
  have hq := lt_of_get hj
  -- the read stands in the list of reads
  have hrs : (j, (E.S q).fr, E.V q) ∈ (E.S E.L.length).rs := by
    have h1 : (j, (E.S q).fr, E.V q) ∈ (E.S (q + 1)).rs := by rw [K.can.read q j hj hk hb]; simp
    have := K.can.rs_mono (E.L.length - (q + 1)) (q + 1) (by omega) _ h1
    rwa [show q + 1 + (E.L.length - (q + 1)) = E.L.length by omega] at this
  -- the boundary stands in the list of boundaries
  obtain ⟨done, hbs, hdone⟩ : ∃ done, (done, (E.S k).h) ∈ (E.S E.L.length).bs ∧ ∀ e, e ∈ done ↔ ∃ p, p < k ∧ E.L[p]? = some e ∧ kindOf E.P (E.O p) = .eff := by
    rcases I.kb with hk0 | ⟨p, i, hkp, hi, hki⟩
    · subst hk0
      refine ⟨[], ?_, fun e => by simp⟩
      rw [K.s0]
      have := K.can.bs_mono E.L.length 0 (by omega) _ K.bs
      rwa [Nat.zero_add] at this
    · subst hkp
      have hp := lt_of_get hi
      obtain ⟨g1, g2, _⟩ := K.can.eff p i hi hki
      refine ⟨i :: (E.S p).done, ?_, fun e => ?_⟩
      · have h1 : (i :: (E.S p).done, (E.S (p + 1)).h) ∈ (E.S (p + 1)).bs := by rw [g2]; simp
        have := K.can.bs_mono (E.L.length - (p + 1)) (p + 1) (by omega) _ h1
        rwa [show p + 1 + (E.L.length - (p + 1)) = E.L.length by omega] at this
      · rw [← g1]; exact K.can.done K.done (p + 1) (by omega) e
  have hr := K.reads
  unfold readsOk at hr
  rw [List.all_eq_true] at hr
  have h1 := hr _ hrs
  simp only [List.all_eq_true] at h1
  have h2 := h1 _ hbs
  simp only [Bool.or_eq_true, Bool.not_eq_true'] at h2
  have hadm : adm (Region.before E.ops) ((List.range E.ops.size).filter fun j => kindAt E.P E.ops j == .eff) j done = true := by
    unfold adm
    simp only [Bool.and_eq_true, List.all_eq_true, Bool.or_eq_true, Bool.not_eq_true']
    refine ⟨fun e he => ?_, fun e he => ?_⟩
    · cases hbit : bit (Region.before E.ops) j e with
      | false => exact .inl rfl
      | true =>
        right
        simp only [List.mem_filter, List.mem_range, beq_iff_eq] at he
        have hl := closed_bit I.closed j (E.O q) (K.can.op q j hj) hready e hbit
        obtain ⟨p, hp⟩ := List.mem_iff_getElem?.1 (K.look.mem e he.1)
        have hke : kindOf E.P (E.O p) = .eff := by rw [← K.can.kind hp]; exact he.2
        have := (hdone e).2 ⟨p, (I.effs p e hp hke).1 hl, hp, hke⟩
        simpa using this
    · obtain ⟨p, g1, g2, g3⟩ := (hdone e).1 he
      have hl := (I.effs p e g2 g3).2 g1
      cases hbit : bit (Region.before E.ops) e j with
      | false => rfl
      | true =>
        have : listed.getD j false = true := closed_bit I.closed e (E.O p) (K.can.op p e g2) (fun e' he' hb' => I.closed e _ (K.can.op p e g2) hl e' he' hb') j hbit
        rw [hun] at this; cases this
  rcases h2 with h2 | h2
  · rw [hadm] at h2; cases h2
  · rw [K.can.op q j hj] at h2
    simp only at h2
    split at h2
    · rename_i u hu
      rw [hu, veqF_sound _ _ _ h2]
    · cases h2

/-- ONE OPERATION OF A REGION THAT DRAWS, whichever is picked. -/
theorem Env.Inv.one (K : E.OK) {listed : Array Bool} {a : Act} {w : World} {m mp : Mp} {k : Nat} (I : E.Inv listed a w m mp k) {j : Nat} (hun : listed.getD j false = false) {q : Nat} (hj : E.L[q]? = some j)
    (hready : ∀ e ∈ (E.O q).after, Region.binds .any e = true → listed.getD e.on false = true) {next : Act → World → Prop} {Q : Exit → Act → World → Prop}
    (hn : ∀ a' w' m' mp' k', E.Inv (listed.setIfInBounds j true) a' w' m' mp' k' → next a' w') : wpOp E.P E.ops Q j next a w := by
  have hq := lt_of_get hj
  unfold wpOp
  rw [K.can.op q j hj]
  simp only
  obtain ⟨g, hg, hgf⟩ := I.at_hand K hj hun hready
  have hops : ∀ x ∈ (E.O q).op.operands, ev1 g x = ev1 (E.S q).fr x := fun x hx => ev1_cut hg fun t ht => by
    subst ht
    unfold looks
    exact List.mem_append_left _ (tmpsIn_mem (by simpa using hx))
  obtain ⟨cg1, cg2, cg3, cg4⟩ := evOp_congr (P := E.P) (call := E.call) hops
  have hw : evWanted E.ops g (E.O q) = some (E.B q) := by
    have h0 := K.can.wn q j hj
    unfold evWanted at h0 ⊢
    split at h0
    · exact h0
    · rename_i i want hgu
      cases hd : (E.ops[i]?).bind (·.dst) with
      | none => rw [hd] at h0; simp at h0
      | some d =>
        rw [hd] at h0
        simp only [Option.bind_some] at h0 ⊢
        rw [hg d, if_pos (by unfold looks; rw [hgu]; simp [hd])]
        exact h0
  rw [evWanted_sound hgf hw]
  -- an effect, carried out or not
  have effect : kindOf E.P (E.O q) = .eff → ∃ mc : Mp, k ≤ q ∧ Rep E.P mc (E.S q).h w ∧ Step E.m0 E.h0 E.w0 mc (E.S q).h w ∧ mc.le mp ∧ (∀ b, b < (E.S q).h.next → mp b = mc b) := fun hk => by
    obtain ⟨h1, h2⟩ := I.commit K hj hun hready hk
    obtain ⟨mc, c1, c2, c3, c4⟩ := h2 (q - k) (by omega)
    rw [show k + (q - k) = q by omega] at c1 c2 c4
    exact ⟨mc, h1, c1, c2, c3, c4⟩
  cases hb : E.B q with
  | false =>
    simp only [Bool.false_eq_true, if_false]
    obtain ⟨v1, v2⟩ := K.can.no q j hj hb
    by_cases hk : kindOf E.P (E.O q) = .eff
    · obtain ⟨mc, h1, c1, c2, c3, c4⟩ := effect hk
      have hst : Step mc (E.S q).h w mc (E.S (q + 1)).h w := by rw [v2]; exact Step.refl _ _ _
      exact hn _ _ _ _ _ (I.moved K hj hun hready hk h1 c1 c2 c3 c4 (by rw [v2]; exact c1) hst (v' := undef) (by rw [v1]; exact undef_rel _))
    · exact hn _ _ _ _ _ (I.quiet K hj hun hready hk (fun _ => hb) (v' := undef) (by rw [v1]; exact undef_rel _))
  | true =>
    simp only [if_true]
    left
    have he := K.can.yes q j hj hb
    cases hk : kindOf E.P (E.O q) with
    | pure =>
      unfold evOp at he; rw [hk] at he
      simp only [Option.map_eq_some_iff, Prod.mk.injEq] at he
      obtain ⟨u, hu, hu2, _⟩ := he
      rw [← cg1] at hu
      obtain ⟨v', h1, h2⟩ := evPure_sound hgf hu
      refine wp_value (h1 w) (hn _ _ _ _ _ (I.quiet K hj hun hready (by rw [hk]; simp) (fun h => by rw [hk] at h; cases h) (v' := v') (by rw [← hu2]; exact h2)))
    | read =>
      have hr := I.read_ok K hj hun hready hk hb
      -- a heap with room for the numbers of all blocks
      have hr' : evReadOrPure E.P g (E.O q) { (E.S k).h with next := (E.S E.L.length).h.next + (E.S k).h.next } = some (E.V q) := by
        have e1 : evReadOrPure E.P g (E.O q) (E.S k).h = some (E.V q) := by
          unfold evReadOrPure at hr ⊢
          rw [cg2, cg1]; exact hr
        exact e1
      have hrep : Rep E.P mp { (E.S k).h with next := (E.S E.L.length).h.next + (E.S k).h.next } w := by
        refine ⟨fun b L' hb' => ?_, fun b hb' => ?_, fun b cs e st h1 h2 => ?_, fun b cs e base olds h1 => ?_, fun b es ck h1 => ?_, fun b b' L' L'' h1 h2 h3 h4 h5 => ?_⟩
        · rcases I.mp2 b L' hb' with g0 | ⟨p, g1, g2⟩
          · exact I.rep.rng b L' g0
          · obtain ⟨_, _, c, _, _, e2, e3, _⟩ := I.early p g1
            rw [g2, e2] at hb'; cases hb'
            exact (Array.getElem?_eq_some_iff.1 e3).1
        · simp only at hb'
          have h0 := I.rep.frs b (by omega)
          refine ⟨h0.1, ?_⟩
          cases hmp : mp b with
          | none => rfl
          | some L' =>
            exfalso
            rcases I.mp2 b L' hmp with g0 | ⟨p, ⟨g1, i, g2, g3, g4, g5⟩, g6⟩
            · rw [h0.2] at g0; cases g0
            · have e1 := K.new_next g2 g3 g4
              have e2 := K.mono' (p := p + 1) (q := E.L.length) (lt_of_get g2) (Nat.le_refl _)
              omega
        · obtain ⟨L', cs', fz, k1, k2, k3⟩ := I.rep.row b cs e st h1 h2
          exact ⟨L', cs', fz, I.le _ _ k1, k2, k3.mono I.le⟩
        · obtain ⟨L', cs', n, k1, k2, k3⟩ := I.rep.rw b cs e base olds h1
          exact ⟨L', cs', n, I.le _ _ k1, k2, k3⟩
        · obtain ⟨L', es', k1, k2, k3⟩ := I.rep.map b es ck h1
          exact ⟨L', es', I.le _ _ k1, k2, k3.mono I.le⟩
        · have hmb : m b = some L' := by
            rcases I.mp2 b L' h3 with g0 | ⟨p, ⟨g1, i, g2, _⟩, g6⟩
            · exact g0
            · exfalso
              have e1 := K.mono' g1 (Nat.le_of_lt (lt_of_get g2))
              have e2 := (I.rep.frs b (by omega)).1
              have : ¬ live (E.S k).h b := by unfold live; rw [e2]; simp [liveO]
              exact this h1
          rcases I.mp2 b' L'' h4 with g0 | ⟨p, g1, g2⟩
          · exact I.rep.sep b b' L' L'' h1 h2 hmb g0 h5
          · exfalso
            obtain ⟨_, _, c, _, _, e2, _, _, e5, _⟩ := I.early p g1
            rw [g2, e2] at h4; cases h4
            exact e5 b L' hmb h5
      obtain ⟨v', h1, h2⟩ := evReadOrPure_sound hrep hgf hr'
      refine wp_value h1 (hn _ _ _ _ _ (I.quiet K hj hun hready (by rw [hk]; simp) (fun h => by rw [hk] at h; cases h) (v' := v') h2))
    | new =>
      obtain ⟨ob, mk, f1, f2, f3⟩ := K.new hj hk hb
      have f1' := f1
      rw [← cg3] at f1'
      obtain ⟨ob', mk', h1, h2, h3⟩ := evNew_sound hgf f1'
      refine wp_value (h1 w) (hn _ _ _ _ _ (I.fresh K hj hun hready hk hb f1 h2 (v' := mk' w.heap.size) fun m' hm => ?_))
      rw [f2]; exact h3 m' _ _ hm
    | eff =>
      obtain ⟨mc, h1, c1, c2, c3, c4⟩ := effect hk
      unfold evOp at he; rw [hk] at he
      simp only at he
      rw [← cg4] at he
      -- the operands, under the smaller map
      obtain ⟨mcan, acan, wcan, d1, d2, _⟩ := K.sim q (Nat.le_of_lt hq)
      have hagree : ∀ b, mcan b ≠ none → mc b = mp b := fun b hbn => by
        have : b < (E.S q).h.next := by
          rcases Nat.lt_or_ge b (E.S q).h.next with h | h
          · exact h
          · exact absurd (d2.frs b h).2 hbn
        exact (c4 b this).symm
      have hgc : FrRel mc E.nt g a.tmps := by
        refine ⟨hgf.size, fun t v e => ?_⟩
        obtain ⟨v', k1, k2⟩ := hgf.get t v e
        have e' := e
        rw [hg t] at e'
        split at e'
        · obtain ⟨v2, k3, k4⟩ := d1.get t v e'
          exact ⟨v', k1, k4.swap k2 hagree⟩
        · cases e'
      refine evEff_wp K.hcall c1 (K.hI _ _ _ _ _ _ K.ini c2) hgc he fun v' m' w' r' s' hv => ?_
      exact hn _ _ _ _ _ (I.moved K hj hun hready hk h1 c1 c2 c3 c4 r' s' hv)

/-- The end: all operations have been carried out. -/
theorem Env.Inv.end_ (K : E.OK) {listed : Array Bool} {a : Act} {w : World} {m mp : Mp} {k : Nat} (I : E.Inv listed a w m mp k) (hall : ∀ i, i < E.ops.size → listed.getD i false = true) :
    ∃ mf, FrRel mf E.nt (E.S E.L.length).fr a.tmps ∧ a.defers = E.a0.defers ∧ Rep E.P mf (E.S E.L.length).h w ∧ Step E.m0 E.h0 E.w0 mf (E.S E.L.length).h w := by
  have hlist : ∀ p j, E.L[p]? = some j → listed.getD j false = true := fun p j hj => hall j (K.look.lt j (List.mem_of_getElem? hj))
  have key : ∀ d, k + d ≤ E.L.length → ∃ mc : Mp, Rep E.P mc (E.S (k + d)).h w ∧ Step E.m0 E.h0 E.w0 mc (E.S (k + d)).h w ∧ mc.le mp ∧ (∀ b, b < (E.S (k + d)).h.next → mp b = mc b) := by
    intro d
    induction d with
    | zero =>
      intro _
      refine ⟨m, I.rep, I.step, I.le, fun b hb => ?_⟩
      cases hm : m b with
      | some L' => exact I.le _ _ hm
      | none =>
        cases hmp : mp b with
        | none => rfl
        | some L' =>
          exfalso
          rcases I.mp2 b L' hmp with g | ⟨p, ⟨g1, i, g2, _⟩, g6⟩
          · rw [hm] at g; cases g
          · have := K.mono' g1 (Nat.le_of_lt (lt_of_get g2))
            simp at hb; omega
    | succ d ih =>
      intro hd
      obtain ⟨mc, r, s, hle, hag⟩ := ih (by omega)
      have hp : k + d < E.L.length := by omega
      have hi : E.L[k + d]? = some E.L[k + d] := List.getElem?_eq_getElem hp
      have same : (E.S (k + d + 1)).h = (E.S (k + d)).h → ∃ mc : Mp, Rep E.P mc (E.S (k + (d + 1))).h w ∧ Step E.m0 E.h0 E.w0 mc (E.S (k + (d + 1))).h w ∧ mc.le mp ∧ (∀ b, b < (E.S (k + (d + 1))).h.next → mp b = mc b) := by
        intro h
        rw [show k + (d + 1) = k + d + 1 by omega, h]
        exact ⟨mc, r, s, hle, hag⟩
      cases hb : E.B (k + d) with
      | false => exact same (K.can.no _ _ hi hb).2
      | true =>
        have he := K.can.yes _ _ hi hb
        cases hkp : kindOf E.P (E.O (k + d)) with
        | pure =>
          unfold evOp at he; rw [hkp] at he
          simp only [Option.map_eq_some_iff, Prod.mk.injEq] at he
          obtain ⟨_, _, _, h⟩ := he
          exact same h.symm
        | read =>
          unfold evOp at he; rw [hkp] at he
          simp only [Option.map_eq_some_iff, Prod.mk.injEq] at he
          obtain ⟨_, _, _, h⟩ := he
          exact same h.symm
        | eff =>
          exfalso
          have := (I.effs _ _ hi hkp).1 (hlist _ _ hi)
          omega
        | new =>
          obtain ⟨ob, mk, c, ob', e1, e2, e3, e4, e5, e6, e7⟩ := I.early (k + d) ⟨by omega, _, hi, hkp, hb, hlist _ _ hi⟩
          obtain ⟨ob2, mk2, f1, f2, f3⟩ := K.new hi hkp hb
          rw [e1] at f1; cases f1
          obtain ⟨mcan, acan, wcan, c1, c2, _⟩ := K.sim (k + d) (Nat.le_of_lt hp)
          obtain ⟨obc, mkc, _, hobc, _⟩ := evNew_sound c1 e1
          have hagree : ∀ b, mcan b ≠ none → mc b = mp b := fun b hbn => by
            have : b < (E.S (k + d)).h.next := by
              rcases Nat.lt_or_ge b (E.S (k + d)).h.next with h | h
              · exact h
              · exact absurd (c2.frs b h).2 hbn
            exact (hag b this).symm
          have hobm : ObRel mc ob ob' := by
            rcases e4 with ⟨cs, cs', el, g1, g2, g3⟩ | g
            · rcases hobc with ⟨cs2, cs2', el2, k1, k2, k3⟩ | ⟨k1, k2⟩
              · rw [g1] at k1; cases k1
                exact .inl ⟨cs, cs', el, g1, g2, k3.swap g3 hagree⟩
              · rw [g1] at k1; cases k1
            · exact .inr g
          have hunm : ∀ b L', mc b = some L' → L'.blk ≠ c := fun b L' hb' hc => by
            have := e6 b L' (hle _ _ hb') hc
            have h2 := (r.frs b (by omega)).2
            rw [h2] at hb'; cases hb'
          refine ⟨mc.upd (E.S (k + d)).h.next ⟨c, 0⟩, ?_, ?_, ?_, ?_⟩
          · rw [show k + (d + 1) = k + d + 1 by omega, f3]; exact r.commit e3 hunm hobm
          · rw [show k + (d + 1) = k + d + 1 by omega, f3]; exact Step.commit r s ob e7
          · intro b L' hb'
            unfold Mp.upd at hb'
            split at hb'
            · rename_i hbn; subst hbn; cases hb'; exact e2
            · exact hle _ _ hb'
          · intro b hb'
            rw [show k + (d + 1) = k + d + 1 by omega, f3, Hp.next_push] at hb'
            unfold Mp.upd
            split
            · rename_i hbn; subst hbn; exact e2
            · exact hag b (by omega)
  obtain ⟨mf, r, s, hle, hag⟩ := key (E.L.length - k) (by have := I.hK; omega)
  rw [show k + (E.L.length - k) = E.L.length by have := I.hK; omega] at r s hag
  obtain ⟨mcan, acan, wcan, d1, d2, _⟩ := K.sim E.L.length (Nat.le_refl _)
  refine ⟨mf, ⟨I.tsz, fun t v e => ?_⟩, I.df, r, s⟩
  have hex := K.can.exp E.L.length (Nat.le_refl _) t v e
  obtain ⟨v', h1, h2⟩ := I.frel t v (by
    have ag : ∀ p, p < E.L.length → ∃ j, E.L[p]? = some j ∧ listed.getD j false = true := fun p hp => ⟨_, List.getElem?_eq_getElem hp, hlist p _ (List.getElem?_eq_getElem hp)⟩
    rcases hex with ⟨p, g1, g2, g3, g4, g5⟩ | ⟨g1, g2⟩
    · exact .inl ⟨p, g1, ag p g1, g3, g4, fun q' k1 k2 _ => g5 q' k1 k2 k2⟩
    · exact .inr ⟨fun p k1 _ => g1 p k1 k1, g2⟩)
  obtain ⟨v2, h3, h4⟩ := d1.get t v e
  refine ⟨v', h1, h4.swap h2 fun b hbn => ?_⟩
  have : b < (E.S E.L.length).h.next := by
    rcases Nat.lt_or_ge b (E.S E.L.length).h.next with h | h
    · exact h
    · exact absurd (d2.frs b h).2 hbn
  exact (hag b this).symm

theorem wpAny_of_inv (K : E.OK) {Q : Exit → Act → World → Prop}
    (hQ : ∀ a w mf, FrRel mf E.nt (E.S E.L.length).fr a.tmps → a.defers = E.a0.defers → Rep E.P mf (E.S E.L.length).h w → Step E.m0 E.h0 E.w0 mf (E.S E.L.length).h w → Q .normal a w) :
    ∀ (fuel : Nat) (listed : Array Bool) (a : Act) (w : World) (m mp : Mp) (k : Nat), cnt (fun i => listed.getD i false) E.ops.size = fuel → E.Inv listed a w m mp k → wpAny E.P .any E.ops Q fuel listed a w := by
  intro fuel
  -- where nothing is ready, all have been carried out
  have stuck : ∀ (listed : Array Bool), listed.size = E.ops.size → Region.ready .any E.ops listed = [] → ∀ i, i < E.ops.size → listed.getD i false = true := by
    intro listed hsz hr i
    induction i using Nat.strongRecOn with
    | _ i ih =>
      intro hi
      cases hl : listed.getD i false with
      | true => rfl
      | false =>
        exfalso
        have : i ∈ Region.ready .any E.ops listed := mem_ready.2 ⟨getD_in' (by omega) hl, E.ops[i], Array.getElem?_eq_getElem hi, fun e he hb => ?_⟩
        · rw [hr] at this; cases this
        · have hlt := K.look.back i _ (Array.getElem?_eq_getElem hi) e he hb
          exact ih e.on hlt (by omega)
  induction fuel with
  | zero =>
    intro listed a w m mp k hc I
    have hall := cnt_zero hc
    refine ⟨?_, ?_⟩
    · cases hr : Region.ready .any E.ops listed with
      | nil => rfl
      | cons i l =>
        exfalso
        have hm : i ∈ Region.ready .any E.ops listed := by rw [hr]; simp
        obtain ⟨h1, o, h2, _⟩ := mem_ready.1 hm
        have hi : i < E.ops.size := (Array.getElem?_eq_some_iff.1 h2).1
        have := hall i hi
        have hs : i < listed.size := by rw [I.sz]; exact hi
        simp [Array.getD_eq_getD_getElem?, hs] at h1 this
        rw [h1] at this; cases this
    · obtain ⟨mf, h1, h2, h3, h4⟩ := I.end_ K hall
      exact hQ a w mf h1 h2 h3 h4
  | succ fuel ih =>
    intro listed a w m mp k hc I
    refine ⟨fun hr => ?_, fun i hi => ?_⟩
    · obtain ⟨mf, h1, h2, h3, h4⟩ := I.end_ K (stuck listed I.sz hr)
      exact hQ a w mf h1 h2 h3 h4
    · obtain ⟨h1, o, h2, h3⟩ := mem_ready.1 hi
      have hin : i < E.ops.size := (Array.getElem?_eq_some_iff.1 h2).1
      have hs : i < listed.size := by rw [I.sz]; exact hin
      have hun : listed.getD i false = false := by simpa [Array.getD_eq_getD_getElem?, hs] using h1
      obtain ⟨q, hq⟩ := List.mem_iff_getElem?.1 (K.look.mem i hin)
      have ho : o = E.O q := by have := K.can.op q i hq; rw [h2] at this; cases this; rfl
      subst ho
      refine I.one K hun hq h3 fun a' w' m' mp' k' I' => ih _ a' w' m' mp' k' ?_ I'
      have := cnt_set (D := fun i => listed.getD i false) (D' := fun k => (listed.setIfInBounds i true).getD k false) (i := i) hun (by simp [Array.getD_eq_getD_getElem?, hs]) (fun k hk => by
        simp only [Array.getD_eq_getD_getElem?]; rw [Array.getElem?_setIfInBounds_ne (by omega)]) hin
      omega
  where
  getD_in' {listed : Array Bool} {i : Nat} (hi : i < listed.size) (h : listed.getD i false = false) : listed.getD i true = false := by
    simp [hi] at h ⊢; exact h
end

theorem getD_replicate_false (m j : Nat) : (Array.replicate m false).getD j false = false := by
  rcases Nat.lt_or_ge j m with h | h
  · simp [h]
  · simp [h]

/-- REGIONS THAT DRAW THEIR ORDER. -/
theorem evDraw_ok {P : Program} (hmix : P.follows .mixedOrders = true) {I : Inv} (hI : StepClosed I) {call : CallF} (hcall : CallOK P I call) : DrawsOK P I (evDraw P call) (regOk P) := by
  intro id ops fr h fr' h' e hreg m nt a w hd hf r hi Q hQ
  unfold evDraw at e
  split at e
  · rename_i s hs
    cases hr : readsOk P ops ((List.range ops.size).filter fun j => kindAt P ops j == .eff) s with
    | false => rw [hr] at e; simp at e
    | true =>
      rw [hr] at e; simp only [cond_true, Option.some.injEq, Prod.mk.injEq] at e
      obtain ⟨rfl, rfl⟩ := e
      simp only [regOk, Bool.not_true, Bool.false_or] at hreg
      obtain ⟨S, g1, g2, g3⟩ := trc_states hs
      obtain ⟨V, B, O, C⟩ := Can.of g3
      refine wp_region_any hmix ?_
      let E : Env := { P := P, call := call, ops := ops, S := S, V := V, B := B, O := O, nt := nt, m0 := m, h0 := h, w0 := { w with drawn := w.drawn + 1 }, a0 := a, I := I }
      have K : E.OK := ⟨hcall, hI, hI _ _ _ _ _ _ hi (Step.drew m h w), C, Look.of hreg, hd, by show (S 0).h = h; rw [g1], by show FrRel m nt (S 0).fr a.tmps; rw [g1]; exact hf, r.drew, by show (S 0).done = []; rw [g1], by show ([], h) ∈ (S 0).bs; rw [g1]; simp, by show readsOk P ops _ (S (sched P ops).length) = true; rw [g2]; exact hr⟩
      have I : E.Inv (Array.replicate ops.size false) a { w with drawn := w.drawn + 1 } m m 0 := by
        have hno : ∀ i, (Array.replicate ops.size false).getD i false = false := fun i => getD_replicate_false _ _
        refine ⟨by simp [E], fun j o ho hj => ?_, Nat.zero_le _, fun p j hj hk => ?_, .inl rfl, fun p j hp => by omega, by show Rep P m (S 0).h _; rw [g1]; exact r.drew, by show Step m h _ m (S 0).h _; rw [g1]; exact Step.refl _ _ _, Mp.le_refl m, fun b L' hb => .inl hb, fun p hp => ?_, fun t v hex => ?_, hf.size, rfl⟩
        · simp only [hno] at hj; cases hj
        · rw [hno]; simp
        · obtain ⟨_, j, _, _, _, g⟩ := hp; rw [hno] at g; cases g
        · rcases hex with ⟨p, _, ⟨j, _, g⟩, _⟩ | ⟨_, g⟩
          · rw [hno] at g; cases g
          · have g' : fr.get t = some v := by have := g; simp only [E, g1] at this; exact this
            exact hf.get t v g'
      have hcnt : cnt (fun i => (Array.replicate ops.size false).getD i false) ops.size = ops.size := by
        rw [show (fun i => (Array.replicate ops.size false).getD i false) = fun _ => false from funext fun i => getD_replicate_false _ _]
        exact cnt_all _
      refine wpAny_of_inv K (Q := Q) (fun a' w' mf f1 f2 f3 f4 => ?_) ops.size _ a _ m m 0 hcnt I
      have e1 : (S (sched P ops).length).fr = s.fr := by rw [g2]
      have e2 : (S (sched P ops).length).h = s.h := by rw [g2]
      have f1' : FrRel mf nt (S (sched P ops).length).fr a'.tmps := f1
      have f3' : Rep P mf (S (sched P ops).length).h w' := f3
      have f4' : Step m h { w with drawn := w.drawn + 1 } mf (S (sched P ops).length).h w' := f4
      rw [e1] at f1'
      rw [e2] at f3' f4'
      exact hQ a' mf w' f1' f2 f3' ((Step.drew m h w).trans f4')
  · cases e

/-- A CALL, FROM THE ABSTRACT ANSWER. -/
theorem evCall_sound {C : Ctx} {I : Inv} (hI : StepClosed I) (hC : CtxOK C I (regOk C.P)) (hmix : C.P.follows .mixedOrders = true) (n : Nat) : CallOK C.P I (evCall C n) :=
  evCall_ok hI hC (fun _ h => evDraw_ok hmix hI h) n

end Go.Ev
