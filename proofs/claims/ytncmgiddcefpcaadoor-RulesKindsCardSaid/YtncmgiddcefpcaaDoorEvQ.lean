/- Regions that draw their order: the invariant, and that each operation keeps it. -/
import Derived.Test.YtncmgiddcefpcaaDoorEvP
namespace Go.Ev
open Go
set_option linter.unusedSimpArgs false
set_option linter.unusedVariables false

/-- What is fixed during a region. -/
structure Env where
  P : Program
  call : CallF
  ops : Array Oper
  S : Nat → Trc
  V : Nat → Value
  B : Nat → Bool
  O : Nat → Oper
  nt : Nat
  m0 : Mp
  h0 : Hp
  w0 : World
  a0 : Act
  I : Ev.Inv

namespace Env
variable (E : Env)
abbrev L : List Nat := sched E.P E.ops
/-- A block that the true side has made ahead of its place. -/
def Early (listed : Array Bool) (K p : Nat) : Prop := K ≤ p ∧ ∃ j : Nat, E.L[p]? = some j ∧ kindOf E.P (E.O p) = .new ∧ E.B p = true ∧ listed.getD j false = true

structure OK : Prop where
  hcall : CallOK E.P E.I E.call
  hI : StepClosed E.I
  ini : E.I E.m0 E.h0 E.w0
  can : Can E.P E.call E.ops E.L E.S E.V E.B E.O
  look : Look E.P E.ops
  hd : ∀ o ∈ E.ops.toList, ∀ d, o.dst = some d → d < E.nt
  s0 : (E.S 0).h = E.h0
  frel : FrRel E.m0 E.nt (E.S 0).fr E.a0.tmps
  rep : Rep E.P E.m0 E.h0 E.w0
  done : (E.S 0).done = []
  bs : ([], E.h0) ∈ (E.S 0).bs
  reads : readsOk E.P E.ops ((List.range E.ops.size).filter fun j => kindAt E.P E.ops j == .eff) (E.S E.L.length) = true

structure Inv (listed : Array Bool) (a : Act) (w : World) (m mp : Mp) (K : Nat) : Prop where
  sz : listed.size = E.ops.size
  closed : Closed E.ops (fun j => listed.getD j false = true)
  hK : K ≤ E.L.length
  effs : ∀ p j : Nat, E.L[p]? = some j → kindOf E.P (E.O p) = .eff → (listed.getD j false = true ↔ p < K)
  kb : K = 0 ∨ ∃ p j, K = p + 1 ∧ E.L[p]? = some j ∧ kindOf E.P (E.O p) = .eff
  news : ∀ p j : Nat, p < K → E.L[p]? = some j → kindOf E.P (E.O p) = .new → listed.getD j false = true
  rep : Rep E.P m (E.S K).h w
  step : Step E.m0 E.h0 E.w0 m (E.S K).h w
  le : m.le mp
  mp2 : ∀ b L', mp b = some L' → m b = some L' ∨ ∃ p, E.Early listed K p ∧ b = (E.S p).h.next
  early : ∀ p, E.Early listed K p → ∃ ob mk c ob', evNew E.P (E.S p).fr (E.O p) = some (ob, mk) ∧ mp (E.S p).h.next = some ⟨c, 0⟩ ∧ w.heap[c]? = some ob' ∧ ObRel mp ob ob' ∧
    (∀ b L', m b = some L' → L'.blk ≠ c) ∧ (∀ b L', mp b = some L' → L'.blk = c → b = (E.S p).h.next) ∧ E.w0.heap.size ≤ c
  frel : ∀ t v, Exp E.L E.V E.O (E.S 0).fr (fun p => ∃ j : Nat, E.L[p]? = some j ∧ listed.getD j false = true) t v → ∃ v', a.tmps[t]? = some v' ∧ VRel mp v v'
  tsz : a.tmps.size = E.nt
  df : a.defers = E.a0.defers
end Env

section
variable {E : Env}

theorem Env.OK.sim (K : E.OK) (p : Nat) (hp : p ≤ E.L.length) : ∃ (m : Mp) (a : Act) (w : World), FrRel m E.nt (E.S p).fr a.tmps ∧ Rep E.P m (E.S p).h w ∧ (∀ q, q < p → (E.S q).h.next ≤ (E.S (q + 1)).h.next) := by
  obtain ⟨m, a, w, h1, h2, _, h3⟩ := K.can.sim K.hI K.hcall K.hd K.frel (by rw [K.s0]; exact K.rep) (by rw [K.s0]; exact K.ini) p hp
  exact ⟨m, a, w, h1, h2, h3⟩

theorem Env.OK.mono (K : E.OK) : ∀ d p, p + d ≤ E.L.length → (E.S p).h.next ≤ (E.S (p + d)).h.next := by
  intro d
  induction d with
  | zero => intro p _; exact Nat.le_refl _
  | succ d ih =>
    intro p hp
    obtain ⟨_, _, _, _, _, h⟩ := K.sim E.L.length (Nat.le_refl _)
    exact Nat.le_trans (ih p (by omega)) (h (p + d) (by omega))
theorem Env.OK.mono' (K : E.OK) {p q : Nat} (hpq : p ≤ q) (hq : q ≤ E.L.length) : (E.S p).h.next ≤ (E.S q).h.next := by
  have := K.mono (q - p) p (by omega)
  rwa [show p + (q - p) = q by omega] at this

theorem Env.OK.new (K : E.OK) {p j : Nat} (hj : E.L[p]? = some j) (hk : kindOf E.P (E.O p) = .new) (hb : E.B p = true) : ∃ ob mk, evNew E.P (E.S p).fr (E.O p) = some (ob, mk) ∧ E.V p = mk (E.S p).h.next ∧ (E.S (p + 1)).h = (E.S p).h.push ob := by
  have he := K.can.yes p j hj hb
  unfold evOp at he
  rw [hk] at he
  simp only [Option.map_eq_some_iff, Prod.mk.injEq] at he
  obtain ⟨⟨ob, mk⟩, h1, h2, h3⟩ := he
  exact ⟨ob, mk, h1, h2.symm, h3.symm⟩
theorem Env.OK.new_next (K : E.OK) {p j : Nat} (hj : E.L[p]? = some j) (hk : kindOf E.P (E.O p) = .new) (hb : E.B p = true) : (E.S (p + 1)).h.next = (E.S p).h.next + 1 := by
  obtain ⟨ob, mk, _, _, h3⟩ := K.new hj hk hb
  rw [h3]; rfl
theorem lt_of_get {l : List Nat} {p j : Nat} (h : l[p]? = some j) : p < l.length := (List.getElem?_eq_some_iff.1 h).1
/-- Two blocks of a region bear two numbers. -/
theorem Env.OK.apart (K : E.OK) {p q i j : Nat} (hi : E.L[p]? = some i) (hj : E.L[q]? = some j) (hk : kindOf E.P (E.O p) = .new) (hb : E.B p = true) (hpq : p < q) : (E.S p).h.next < (E.S q).h.next := by
  have h1 := K.new_next hi hk hb
  have h2 := K.mono' (p := p + 1) (q := q) (by omega) (Nat.le_of_lt (lt_of_get hj))
  omega

/-- The frame of an operation that is at hand: what it looks at stands in the true frame. -/
theorem Env.Inv.at_hand (K : E.OK) {listed : Array Bool} {a : Act} {w : World} {m mp : Mp} {k : Nat} (I : E.Inv listed a w m mp k) {q j : Nat} (hj : E.L[q]? = some j) (hun : listed.getD j false = false)
    (hready : ∀ e ∈ (E.O q).after, Region.binds .any e = true → listed.getD e.on false = true) :
    ∃ g : Fr, (∀ t, g.get t = if t ∈ looks E.ops (E.O q) then (E.S q).fr.get t else none) ∧ FrRel mp E.nt g a.tmps := by
  obtain ⟨g, hg⟩ := cut_frame (E.S q).fr (looks E.ops (E.O q))
  refine ⟨g, hg, I.tsz, fun t v e => ?_⟩
  rw [hg] at e
  split at e
  · rename_i ht
    have hex := K.can.exp q (Nat.le_of_lt (lt_of_get hj)) t v e
    refine I.frel t v ?_
    -- the two sets of operations agree on those that write this slot
    have agree : ∀ p, p < E.L.length → (E.O p).dst = some t → (p < q ↔ ∃ i : Nat, E.L[p]? = some i ∧ listed.getD i false = true) := by
      intro p hp hdst
      have hi : E.L[p]? = some E.L[p] := List.getElem?_eq_getElem hp
      have hcf1 : looksAt E.ops j = looks E.ops (E.O q) := by unfold looksAt; rw [K.can.op q j hj]
      have hcf2 : dstAt E.ops E.L[p] = some t := by unfold dstAt; rw [K.can.op p _ hi]; exact hdst
      constructor
      · intro hpq
        refine ⟨_, hi, ?_⟩
        rcases K.look.pair p q _ j hpq hi hj with h1 | ⟨h1, _⟩
        · exact closed_bit I.closed j (E.O q) (K.can.op q j hj) hready _ h1
        · exfalso
          simp [conflict, hcf2, hcf1, ht] at h1
      · rintro ⟨i, hi', hl⟩
        rw [hi] at hi'; cases hi'
        rcases Nat.lt_trichotomy p q with h1 | h1 | h1
        · exact h1
        · subst h1; rw [hi] at hj; cases hj; rw [hun] at hl; cases hl
        · exfalso
          rcases K.look.pair q p j _ h1 hj hi with h2 | ⟨h2, _⟩
          · have : listed.getD j false = true := closed_bit I.closed _ (E.O p) (K.can.op p _ hi) (fun e he hb => I.closed _ _ (K.can.op p _ hi) hl e he hb) _ h2
            rw [hun] at this; cases this
          · simp [conflict, hcf2, hcf1, ht] at h2
    rcases hex with ⟨p, h1, h2, h3, h4, h5⟩ | ⟨h1, h2⟩
    · exact .inl ⟨p, h1, (agree p h1 h3).1 h2, h3, h4, fun q' g1 g2 g3 g4 => h5 q' g1 g2 ((agree q' g2 g4).2 g3) g4⟩
    · exact .inr ⟨fun p g1 g2 g3 => h1 p g1 ((agree p g1 g3).2 g2) g3, h2⟩
  · cases e

/-- Behind one more operation. -/
theorem Env.Inv.frel_put (K : E.OK) {listed : Array Bool} {a : Act} {w : World} {m mp mp' : Mp} {k : Nat} (I : E.Inv listed a w m mp k) {q j : Nat} (hj : E.L[q]? = some j) (hun : listed.getD j false = false) (hle : mp.le mp')
    {v' : Value} (hv : VRel mp' (E.V q) v') :
    ∀ t v, Exp E.L E.V E.O (E.S 0).fr (fun p => ∃ i : Nat, E.L[p]? = some i ∧ (listed.setIfInBounds j true).getD i false = true) t v → ∃ v'', (a.put (E.O q).dst v').tmps[t]? = some v'' ∧ VRel mp' v v'' := by
  intro t v hex
  have hq := lt_of_get hj
  have hjs : j < listed.size := by rw [I.sz]; exact K.look.lt j (List.mem_of_getElem? hj)
  have hself : (listed.setIfInBounds j true).getD j false = true := by simp [Array.getD_eq_getD_getElem?, hjs]
  have hother : ∀ i, i ≠ j → (listed.setIfInBounds j true).getD i false = listed.getD i false := fun i hi => by
    simp only [Array.getD_eq_getD_getElem?]; rw [Array.getElem?_setIfInBounds_ne (by omega)]
  have huniq : ∀ p i : Nat, E.L[p]? = some i → p ≠ q → i ≠ j := fun p i hi hpq hij => by
    rcases Nat.lt_or_gt_of_ne hpq with h1 | h1
    · exact K.look.ne p q i j h1 hi hj hij
    · exact K.look.ne q p j i h1 hj hi hij.symm
  by_cases hdst : (E.O q).dst = some t
  · -- it is the last that writes the slot
    have hlast : ∀ p i : Nat, q < p → E.L[p]? = some i → listed.getD i false = true → (E.O p).dst ≠ some t := by
      intro p i hqp hi hl hd
      rcases K.look.pair q p j i hqp hj hi with h2 | ⟨h2, _⟩
      · have : listed.getD j false = true := closed_bit I.closed i (E.O p) (K.can.op p i hi) (fun e he hb => I.closed i _ (K.can.op p i hi) hl e he hb) _ h2
        rw [hun] at this; cases this
      · have e1 : dstAt E.ops j = some t := by unfold dstAt; rw [K.can.op q j hj]; exact hdst
        have e2 : dstAt E.ops i = some t := by unfold dstAt; rw [K.can.op p i hi]; exact hd
        simp [conflict, e1, e2] at h2
    have hvq : v = E.V q := by
      rcases hex with ⟨p, h1, ⟨i, hi, hl⟩, h3, h4, h5⟩ | ⟨h1, h2⟩
      · rcases Nat.lt_trichotomy p q with h6 | h6 | h6
        · exact absurd hdst (h5 q h6 hq ⟨j, hj, hself⟩)
        · subst h6; exact h4
        · rw [hother i (huniq p i hi (by omega))] at hl
          exact absurd h3 (hlast p i h6 hi hl)
      · exact absurd hdst (h1 q hq ⟨j, hj, hself⟩)
    subst hvq
    have htn : t < E.nt := K.hd _ (by have := K.can.op q j hj; rw [← Array.getElem?_toList] at this; exact List.mem_of_getElem? this) t hdst
    refine ⟨v', ?_, hv⟩
    simp [Act.put, hdst, I.tsz, htn]
  · have hold : Exp E.L E.V E.O (E.S 0).fr (fun p => ∃ i : Nat, E.L[p]? = some i ∧ listed.getD i false = true) t v := by
      have back : ∀ p, (E.O p).dst = some t → (∃ i : Nat, E.L[p]? = some i ∧ (listed.setIfInBounds j true).getD i false = true) → ∃ i : Nat, E.L[p]? = some i ∧ listed.getD i false = true := by
        rintro p hp ⟨i, hi, hl⟩
        have hpq : p ≠ q := fun h0 => by subst h0; exact hdst hp
        rw [hother i (huniq p i hi hpq)] at hl
        exact ⟨i, hi, hl⟩
      have forth : ∀ p : Nat, (∃ i : Nat, E.L[p]? = some i ∧ listed.getD i false = true) → ∃ i : Nat, E.L[p]? = some i ∧ (listed.setIfInBounds j true).getD i false = true := by
        rintro p ⟨i, hi, hl⟩
        refine ⟨i, hi, ?_⟩
        by_cases hij : i = j
        · subst hij; exact hself
        · rw [hother i hij]; exact hl
      rcases hex with ⟨p, h1, h2, h3, h4, h5⟩ | ⟨h1, h2⟩
      · exact .inl ⟨p, h1, back p h3 h2, h3, h4, fun q' g1 g2 g3 => h5 q' g1 g2 (forth q' g3)⟩
      · exact .inr ⟨fun p g1 g2 => h1 p g1 (forth p g2), h2⟩
    obtain ⟨v'', h1, h2⟩ := I.frel t v hold
    refine ⟨v'', ?_, h2.mono hle⟩
    cases hd : (E.O q).dst with
    | none => simpa [Act.put] using h1
    | some d =>
      have : d ≠ t := fun h0 => hdst (by rw [hd, h0])
      simp only [Act.put]
      rw [Array.getElem?_setIfInBounds_ne this]
      exact h1

theorem Env.Inv.listed_set (K : E.OK) {listed : Array Bool} {a : Act} {w : World} {m mp : Mp} {k : Nat} (I : E.Inv listed a w m mp k) {q j : Nat} (hj : E.L[q]? = some j)
    (hready : ∀ e ∈ (E.O q).after, Region.binds .any e = true → listed.getD e.on false = true) :
    (listed.setIfInBounds j true).size = E.ops.size ∧ Closed E.ops (fun i => (listed.setIfInBounds j true).getD i false = true) ∧
    (listed.setIfInBounds j true).getD j false = true ∧ (∀ i, i ≠ j → (listed.setIfInBounds j true).getD i false = listed.getD i false) := by
  have hjs : j < listed.size := by rw [I.sz]; exact K.look.lt j (List.mem_of_getElem? hj)
  have hself : (listed.setIfInBounds j true).getD j false = true := by simp [Array.getD_eq_getD_getElem?, hjs]
  have hother : ∀ i, i ≠ j → (listed.setIfInBounds j true).getD i false = listed.getD i false := fun i hi => by
    simp only [Array.getD_eq_getD_getElem?]; rw [Array.getElem?_setIfInBounds_ne (by omega)]
  have hup : ∀ i, listed.getD i false = true → (listed.setIfInBounds j true).getD i false = true := fun i hi => by
    by_cases hij : i = j
    · subst hij; exact hself
    · rw [hother i hij]; exact hi
  refine ⟨by simp [I.sz], fun i o ho hi0 e he hb => ?_, hself, hother⟩
  have hi : (listed.setIfInBounds j true).getD i false = true := hi0
  show (listed.setIfInBounds j true).getD e.on false = true
  by_cases hij : i = j
  · subst hij
    have := K.can.op q i hj
    rw [ho] at this; cases this
    exact hup _ (hready e he hb)
  · rw [hother i hij] at hi
    exact hup _ (I.closed i o ho hi e he hb)

/-- All positions of one operation. -/
theorem Env.OK.pos (K : E.OK) {p q i : Nat} (hp : E.L[p]? = some i) (hq : E.L[q]? = some i) : p = q := by
  rcases Nat.lt_trichotomy p q with h | h | h
  · exact absurd rfl (K.look.ne p q i i h hp hq)
  · exact h
  · exact absurd rfl (K.look.ne q p i i h hq hp)
end

end Go.Ev
