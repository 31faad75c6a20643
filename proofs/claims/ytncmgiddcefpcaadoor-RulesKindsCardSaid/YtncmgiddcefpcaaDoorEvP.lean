/- Regions that draw their order: the theorem. -/
import Derived.Test.YtncmgiddcefpcaaDoorEvO
namespace Go.Ev
open Go
set_option linter.unusedSimpArgs false
set_option linter.unusedVariables false

/-- What one step of the trace says. -/
theorem trcStep_spec {P : Program} {call : CallF} {ops : Array Oper} {s s' : Trc} {j : Nat} (h : trcStep P call ops s j = some s') :
    ∃ o b v, ops[j]? = some o ∧ evWanted ops s.fr o = some b ∧ s'.fr = put s.fr o.dst v ∧ (b = false → v = undef ∧ s'.h = s.h) ∧ (b = true → evOp P call s.fr o s.h = some (v, s'.h)) ∧
      (kindOf P o = .eff → s'.done = j :: s.done ∧ s'.bs = (j :: s.done, s'.h) :: s.bs ∧ s'.rs = s.rs) ∧ (kindOf P o ≠ .eff → s'.done = s.done ∧ s'.bs = s.bs) ∧
      (kindOf P o = .read → b = true → s'.rs = (j, s.fr, v) :: s.rs) ∧ (∀ x, x ∈ s.rs → x ∈ s'.rs) := by
  unfold trcStep at h
  split at h
  · cases h
  · rename_i o ho
    split at h
    · cases h
    · rename_i hw
      cases hk : (kindOf P o == Kd.eff) with
      | true =>
        rw [hk] at h; simp only [cond_true, Option.some.injEq] at h; subst h
        have hk' : kindOf P o = .eff := by simpa using hk
        exact ⟨o, false, undef, ho, hw, rfl, fun _ => ⟨rfl, rfl⟩, fun h => (by cases h), fun _ => ⟨rfl, rfl, rfl⟩, fun h => absurd hk' h, fun _ h => (by cases h), fun x hx => hx⟩
      | false =>
        rw [hk] at h; simp only [cond_false, Option.some.injEq] at h; subst h
        have hk' : kindOf P o ≠ .eff := by simpa using hk
        exact ⟨o, false, undef, ho, hw, rfl, fun _ => ⟨rfl, rfl⟩, fun h => (by cases h), fun h => absurd h hk', fun _ => ⟨rfl, rfl⟩, fun _ h => (by cases h), fun x hx => hx⟩
    · rename_i hw
      split at h
      · cases h
      · rename_i v h1 he
        split at h
        · rename_i hk
          simp only [Option.some.injEq] at h; subst h
          exact ⟨o, true, v, ho, hw, rfl, fun h => (by cases h), fun _ => he, fun _ => ⟨rfl, rfl, rfl⟩, fun h => absurd hk h, fun h => (by rw [hk] at h; cases h), fun x hx => hx⟩
        · rename_i hk
          simp only [Option.some.injEq] at h; subst h
          exact ⟨o, true, v, ho, hw, rfl, fun h => (by cases h), fun _ => he, fun h => (by rw [hk] at h; cases h), fun _ => ⟨rfl, rfl⟩, fun _ _ => rfl, fun x hx => by simp [hx]⟩
        · rename_i hk1 hk2
          simp only [Option.some.injEq] at h; subst h
          exact ⟨o, true, v, ho, hw, rfl, fun h => (by cases h), fun _ => he, fun h => absurd h (fun h => hk1 h), fun _ => ⟨rfl, rfl⟩, fun h => absurd h (fun h => hk2 h), fun x hx => hx⟩

/-- A canonical run of a region. -/
structure Can (P : Program) (call : CallF) (ops : Array Oper) (L : List Nat) (S : Nat → Trc) (V : Nat → Value) (B : Nat → Bool) (O : Nat → Oper) : Prop where
  op : ∀ p j, L[p]? = some j → ops[j]? = some (O p)
  wn : ∀ p j, L[p]? = some j → evWanted ops (S p).fr (O p) = some (B p)
  fr : ∀ p j, L[p]? = some j → (S (p + 1)).fr = put (S p).fr (O p).dst (V p)
  no : ∀ p j, L[p]? = some j → B p = false → V p = undef ∧ (S (p + 1)).h = (S p).h
  yes : ∀ p j, L[p]? = some j → B p = true → evOp P call (S p).fr (O p) (S p).h = some (V p, (S (p + 1)).h)
  eff : ∀ p j, L[p]? = some j → kindOf P (O p) = .eff → (S (p + 1)).done = j :: (S p).done ∧ (S (p + 1)).bs = (j :: (S p).done, (S (p + 1)).h) :: (S p).bs ∧ (S (p + 1)).rs = (S p).rs
  neff : ∀ p j, L[p]? = some j → kindOf P (O p) ≠ .eff → (S (p + 1)).done = (S p).done ∧ (S (p + 1)).bs = (S p).bs
  read : ∀ p j, L[p]? = some j → kindOf P (O p) = .read → B p = true → (S (p + 1)).rs = (j, (S p).fr, V p) :: (S p).rs
  rs : ∀ p j, L[p]? = some j → ∀ x, x ∈ (S p).rs → x ∈ (S (p + 1)).rs

theorem Can.of {P : Program} {call : CallF} {ops : Array Oper} {L : List Nat} {S : Nat → Trc} (h : ∀ p j, L[p]? = some j → trcStep P call ops (S p) j = some (S (p + 1))) : ∃ V B O, Can P call ops L S V B O := by
  have key : ∀ p, ∃ x : Value × Bool × Oper, ∀ j, L[p]? = some j → ops[j]? = some x.2.2 ∧ evWanted ops (S p).fr x.2.2 = some x.2.1 ∧ (S (p + 1)).fr = put (S p).fr x.2.2.dst x.1 ∧ (x.2.1 = false → x.1 = undef ∧ (S (p + 1)).h = (S p).h) ∧ (x.2.1 = true → evOp P call (S p).fr x.2.2 (S p).h = some (x.1, (S (p + 1)).h)) ∧
      (kindOf P x.2.2 = .eff → (S (p + 1)).done = j :: (S p).done ∧ (S (p + 1)).bs = (j :: (S p).done, (S (p + 1)).h) :: (S p).bs ∧ (S (p + 1)).rs = (S p).rs) ∧ (kindOf P x.2.2 ≠ .eff → (S (p + 1)).done = (S p).done ∧ (S (p + 1)).bs = (S p).bs) ∧
      (kindOf P x.2.2 = .read → x.2.1 = true → (S (p + 1)).rs = (j, (S p).fr, x.1) :: (S p).rs) ∧ (∀ y, y ∈ (S p).rs → y ∈ (S (p + 1)).rs) := by
    intro p
    cases hp : L[p]? with
    | none => exact ⟨(undef, true, default), fun j hj => by cases hj⟩
    | some j =>
      obtain ⟨o, b, v, g⟩ := trcStep_spec (h p j hp)
      exact ⟨(v, b, o), fun j' hj' => by cases hj'; exact g⟩
  obtain ⟨f, hf⟩ := Classical.axiomOfChoice key
  refine ⟨fun p => (f p).1, fun p => (f p).2.1, fun p => (f p).2.2, ?_⟩
  exact ⟨fun p j hj => (hf p j hj).1, fun p j hj => (hf p j hj).2.1, fun p j hj => (hf p j hj).2.2.1, fun p j hj => (hf p j hj).2.2.2.1, fun p j hj => (hf p j hj).2.2.2.2.1, fun p j hj => (hf p j hj).2.2.2.2.2.1, fun p j hj => (hf p j hj).2.2.2.2.2.2.1, fun p j hj => (hf p j hj).2.2.2.2.2.2.2.1, fun p j hj => (hf p j hj).2.2.2.2.2.2.2.2⟩

section
variable {P : Program} {call : CallF} {ops : Array Oper} {L : List Nat} {S : Nat → Trc} {V : Nat → Value} {B : Nat → Bool} {O : Nat → Oper}

theorem Can.kind (C : Can P call ops L S V B O) {p j : Nat} (hj : L[p]? = some j) : kindAt P ops j = kindOf P (O p) := by
  unfold kindAt; rw [C.op p j hj]

/-- The canonical run has a true one. -/
theorem Can.sim (C : Can P call ops L S V B O) {I : Inv} (hI : StepClosed I) (hcall : CallOK P I call) {nt : Nat} (hd : ∀ o ∈ ops.toList, ∀ d, o.dst = some d → d < nt) {m0 : Mp} {a0 : Act} {w0 : World} (hf : FrRel m0 nt (S 0).fr a0.tmps) (r : Rep P m0 (S 0).h w0) (hi : I m0 (S 0).h w0) :
    ∀ p, p ≤ L.length → ∃ (m : Mp) (a : Act) (w : World), FrRel m nt (S p).fr a.tmps ∧ Rep P m (S p).h w ∧ I m (S p).h w ∧ (∀ q, q < p → (S q).h.next ≤ (S (q + 1)).h.next) := by
  intro p
  induction p with
  | zero => intro _; exact ⟨m0, a0, w0, hf, r, hi, fun q hq => by omega⟩
  | succ p ih =>
    intro hp
    obtain ⟨m, a, w, hf, r, hi, hmono⟩ := ih (by omega)
    have hj : L[p]? = some L[p] := List.getElem?_eq_getElem (by omega)
    have hdo : ∀ d, (O p).dst = some d → d < nt := fun d h => hd _ (by have := C.op p _ hj; rw [← Array.getElem?_toList] at this; exact List.mem_of_getElem? this) d h
    cases hb : B p with
    | false =>
      obtain ⟨h1, h2⟩ := C.no p _ hj hb
      refine ⟨m, a.put (O p).dst undef, w, ?_, by rw [h2]; exact r, by rw [h2]; exact hi, fun q hq => ?_⟩
      · rw [C.fr p _ hj, h1]; exact hf.put hdo (undef_rel m)
      · by_cases hqp : q = p
        · subst hqp; rw [h2]; exact Nat.le_refl _
        · exact hmono q (by omega)
    | true =>
      have he := C.yes p _ hj hb
      have := wp_some (evOp_wp hcall r hi hf he (next := fun a' w' => ∃ m', FrRel m' nt (S (p + 1)).fr a'.tmps ∧ Rep P m' (S (p + 1)).h w' ∧ I m' (S (p + 1)).h w' ∧ (S p).h.next ≤ (S (p + 1)).h.next) (Q := fun _ _ _ => False) fun v' m' w' r' s' hv =>
        ⟨m', by rw [C.fr p _ hj]; exact (hf.mono s'.le).put hdo hv, r', hI _ _ _ _ _ _ hi s', s'.next⟩)
      obtain ⟨a', w', m', g1, g2, g4, g3⟩ := this
      refine ⟨m', a', w', g1, g2, g4, fun q hq => ?_⟩
      by_cases hqp : q = p
      · subst hqp; exact g3
      · exact hmono q (by omega)

/-- Which value a slot has behind some of the operations. -/
def Exp (L : List Nat) (V : Nat → Value) (O : Nat → Oper) (fr0 : Fr) (A : Nat → Prop) (t : Tmp) (v : Value) : Prop :=
  (∃ p, p < L.length ∧ A p ∧ (O p).dst = some t ∧ v = V p ∧ ∀ q, p < q → q < L.length → A q → (O q).dst ≠ some t) ∨ ((∀ p, p < L.length → A p → (O p).dst ≠ some t) ∧ fr0.get t = some v)

theorem Can.exp (C : Can P call ops L S V B O) : ∀ q, q ≤ L.length → ∀ t v, (S q).fr.get t = some v → Exp L V O (S 0).fr (fun p => p < q) t v := by
  intro q
  induction q with
  | zero => intro _ t v h; exact .inr ⟨fun p _ h => by omega, h⟩
  | succ q ih =>
    intro hq t v h
    have hj : L[q]? = some L[q] := List.getElem?_eq_getElem (by omega)
    rw [C.fr q _ hj] at h
    have hcase : ((O q).dst = some t ∧ v = V q) ∨ ((O q).dst ≠ some t ∧ (S q).fr.get t = some v) := by
      unfold put at h
      split at h
      · rename_i d hd
        rw [Tr.get_set] at h
        split at h
        · rename_i htd; subst htd; left; simp at h; exact ⟨hd, h.symm⟩
        · rename_i htd; right; exact ⟨fun h0 => htd (by rw [hd] at h0; cases h0; rfl), h⟩
      · rename_i hd; right; exact ⟨fun h0 => (by rw [hd] at h0; cases h0), h⟩
    rcases hcase with ⟨h1, h2⟩ | ⟨h1, h2⟩
    · exact .inl ⟨q, by omega, by omega, h1, h2, fun q' h3 h4 h5 => by omega⟩
    · rcases ih (by omega) t v h2 with ⟨p, g1, g2, g3, g4, g5⟩ | ⟨g1, g2⟩
      · refine .inl ⟨p, g1, by omega, g3, g4, fun q' h3 h4 h5 => ?_⟩
        by_cases hqq : q' = q
        · subst hqq; exact h1
        · exact g5 q' h3 h4 (by omega)
      · refine .inr ⟨fun p hp hpq => ?_, g2⟩
        by_cases hqq : p = q
        · subst hqq; exact h1
        · exact g1 p hp (by omega)

theorem Can.done (C : Can P call ops L S V B O) (h0 : (S 0).done = []) : ∀ q, q ≤ L.length → ∀ e, e ∈ (S q).done ↔ ∃ p, p < q ∧ L[p]? = some e ∧ kindOf P (O p) = .eff := by
  intro q
  induction q with
  | zero => intro _ e; rw [h0]; simp
  | succ q ih =>
    intro hq e
    have hj : L[q]? = some L[q] := List.getElem?_eq_getElem (by omega)
    by_cases hk : kindOf P (O q) = .eff
    · rw [(C.eff q _ hj hk).1, List.mem_cons, ih (by omega)]
      constructor
      · rintro (rfl | ⟨p, h1, h2, h3⟩)
        · exact ⟨q, by omega, hj, hk⟩
        · exact ⟨p, by omega, h2, h3⟩
      · rintro ⟨p, h1, h2, h3⟩
        by_cases hpq : p = q
        · subst hpq; rw [hj] at h2; cases h2; exact .inl rfl
        · exact .inr ⟨p, by omega, h2, h3⟩
    · rw [(C.neff q _ hj hk).1, ih (by omega)]
      constructor
      · rintro ⟨p, h1, h2, h3⟩; exact ⟨p, by omega, h2, h3⟩
      · rintro ⟨p, h1, h2, h3⟩
        by_cases hpq : p = q
        · subst hpq; exact absurd h3 hk
        · exact ⟨p, by omega, h2, h3⟩

theorem Can.bs_mono (C : Can P call ops L S V B O) : ∀ d q, q + d ≤ L.length → ∀ x, x ∈ (S q).bs → x ∈ (S (q + d)).bs := by
  intro d
  induction d with
  | zero => intro q _ x hx; exact hx
  | succ d ih =>
    intro q hq x hx
    have h1 := ih q (by omega) x hx
    have hj : L[q + d]? = some L[q + d] := List.getElem?_eq_getElem (by omega)
    rw [← Nat.add_assoc]
    by_cases hk : kindOf P (O (q + d)) = .eff
    · rw [(C.eff _ _ hj hk).2.1]; exact List.mem_cons_of_mem _ h1
    · rw [(C.neff _ _ hj hk).2]; exact h1
theorem Can.rs_mono (C : Can P call ops L S V B O) : ∀ d q, q + d ≤ L.length → ∀ x, x ∈ (S q).rs → x ∈ (S (q + d)).rs := by
  intro d
  induction d with
  | zero => intro q _ x hx; exact hx
  | succ d ih =>
    intro q hq x hx
    have hj : L[q + d]? = some L[q + d] := List.getElem?_eq_getElem (by omega)
    rw [← Nat.add_assoc]
    exact C.rs _ _ hj _ (ih q (by omega) x hx)
end

end Go.Ev
