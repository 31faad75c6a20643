/- Ev: a region that draws, step by step in its text's order: each read is held against the heaps at which it may be carried out as well. -/
import Derived.Test.YtncmgiddcefpcaaDoorEvL
namespace Go.Ev
open Go
set_option linter.unusedSimpArgs false
set_option linter.unusedVariables false

/-- The flags of a region's operations: 0 looks at no memory, 1 reads, 2 makes a block, 3 an effect, 4 an effect that each read is ordered against. -/
def flagB (P : Program) (ops : Array Oper) (j f : Nat) : Bool :=
  let ms := Region.before ops
  match f with
  | 0 => kindAt P ops j == .pure
  | 1 => kindAt P ops j == .read
  | 2 => kindAt P ops j == .new
  | 3 => kindAt P ops j == .eff
  | 4 => kindAt P ops j == .eff && (List.range ops.size).all fun i => !(kindAt P ops i == .read) || (bif decide (j < i) then bit ms i j else bit ms j i)
  | _ => false
def flagsB (P : Program) (ops : Array Oper) : Nat → List Nat → Bool
  | _, [] => true
  | j, f :: fl => flagB P ops j f && flagsB P ops (j + 1) fl
def drawB (P : Program) (ops : Array Oper) (fl : List Nat) : Bool := (sched P ops == List.range ops.size) && Nat.beq fl.length ops.size && flagsB P ops 0 fl

variable {C : Ctx}
abbrev Rd := Fr × Oper × Value
def sameAt (P : Program) (o : Oper) (fr : Fr) (v : Value) : List Hp → Prop
  | [] => True
  | h :: hs => evReadOrPure P fr o h = some v ∧ sameAt P o fr v hs
def stillAt (P : Program) (h : Hp) : List Rd → Prop
  | [] => True
  | (fr, o, v) :: rs => evReadOrPure P fr o h = some v ∧ stillAt P h rs

/-- The operations from place j on. -/
def WpE (C : Ctx) (ops : Array Oper) : List Nat → List Oper → Fr → Hp → List Hp → List Rd → (Fr → Hp → Prop) → Prop
  | f :: fl, o :: l, fr, h, hs, rs, Q => ∃ b, evWanted ops fr o = some b ∧ match b with
    | true => WpP C o fr h fun v h' => match f with
      | 0 => WpE C ops fl l (put fr o.dst v) h hs rs Q
      | 1 => sameAt C.P o fr v hs ∧ WpE C ops fl l (put fr o.dst v) h hs ((fr, o, v) :: rs) Q
      | 2 => WpE C ops fl l (put fr o.dst v) h' hs rs Q
      | 3 => stillAt C.P h' rs ∧ WpE C ops fl l (put fr o.dst v) h' (h' :: hs) rs Q
      | _ => WpE C ops fl l (put fr o.dst v) h' [h'] [] Q
    | false => match f with
      | 3 => stillAt C.P h rs ∧ WpE C ops fl l (put fr o.dst undef) h (h :: hs) rs Q
      | 4 => WpE C ops fl l (put fr o.dst undef) h [h] [] Q
      | _ => WpE C ops fl l (put fr o.dst undef) h hs rs Q
  | [], [], fr, h, _, _, Q => Q fr h
  | _, _, _, _, _, _, _ => False

section
variable {P : Program} {ops : Array Oper} {call : CallF}
structure DrInv (P : Program) (ops : Array Oper) (a : Nat) (s : Trc) (hs : List Hp) (rs : List Rd) : Prop where
  dn : ∀ e ∈ s.done, e < a
  ef : ∀ e ∈ s.done, kindAt P ops e = .eff ∧ e < ops.size
  lt : ∀ d h, (d, h) ∈ s.bs → ∀ e ∈ d, e < a
  /-- each heap is one of the window, or an ordered effect stands between -/
  bs : ∀ d h, (d, h) ∈ s.bs → h ∈ hs ∨ ∃ e ∈ s.done, e ∉ d ∧ flagB P ops e 4 = true
  ri : ∀ i fr v, (i, fr, v) ∈ s.rs → i < a ∧ i < ops.size ∧ kindAt P ops i = .read
  /-- each read is one of the window, or an ordered effect came behind it -/
  rw_ : ∀ i fr v, (i, fr, v) ∈ s.rs → (∃ o, ops[i]? = some o ∧ (fr, o, v) ∈ rs) ∨ ∃ e ∈ s.done, i < e ∧ flagB P ops e 4 = true
  rs : ∀ i fr v, (i, fr, v) ∈ s.rs → ∀ d h, (d, h) ∈ s.bs → adm (Region.before ops) ((List.range ops.size).filter fun j => kindAt P ops j == .eff) i d = true → ∃ o, ops[i]? = some o ∧ evReadOrPure P fr o h = some v

theorem flag4 {e i : Nat} (h : flagB P ops e 4 = true) (hi : i < ops.size) (hk : kindAt P ops i = .read) : (e < i → bit (Region.before ops) i e = true) ∧ (i ≤ e → bit (Region.before ops) e i = true) := by
  unfold flagB at h
  simp only [Bool.and_eq_true, List.all_eq_true, Bool.or_eq_true, Bool.not_eq_true', beq_eq_false_iff_ne, List.mem_range] at h
  rcases h.2 i hi with h1 | h1
  · exact absurd hk h1
  · refine ⟨fun hlt => ?_, fun hle => ?_⟩
    · rw [decide_eq_true hlt] at h1; exact h1
    · rw [decide_eq_false (by omega)] at h1; exact h1

theorem adm_no_before {i e : Nat} {d : List Nat} (he : e ∈ (List.range ops.size).filter fun j => kindAt P ops j == .eff) (hb : bit (Region.before ops) i e = true) (hd : e ∉ d) :
    adm (Region.before ops) ((List.range ops.size).filter fun j => kindAt P ops j == .eff) i d = true → False := by
  intro h
  unfold adm at h
  simp only [Bool.and_eq_true, List.all_eq_true] at h
  have := h.1 e he
  rw [hb] at this
  simp at this
  exact hd this
theorem adm_no_after {i e : Nat} {d effs : List Nat} (hb : bit (Region.before ops) e i = true) (hd : e ∈ d) : adm (Region.before ops) effs i d = true → False := by
  intro h
  unfold adm at h
  simp only [Bool.and_eq_true, List.all_eq_true] at h
  have := h.2 e hd
  rw [hb] at this; cases this

theorem DrInv.pure {a : Nat} {s : Trc} {hs : List Hp} {rs : List Rd} (I : DrInv P ops a s hs rs) (fr : Fr) (h : Hp) : DrInv P ops (a + 1) { s with fr := fr, h := h } hs rs :=
  ⟨fun e he => by have := I.dn e he; omega, I.ef, fun d h hd e he => by have := I.lt d h hd e he; omega, I.bs, fun i f v hm => ⟨by have := (I.ri i f v hm).1; omega, (I.ri i f v hm).2⟩, I.rw_, I.rs⟩

theorem DrInv.read {a : Nat} {s : Trc} {hs : List Hp} {rs : List Rd} (I : DrInv P ops a s hs rs) {o : Oper} (ho : ops[a]? = some o) (hk : kindAt P ops a = .read) (ha : a < ops.size) {v : Value} (fr : Fr)
    (hv : sameAt P o s.fr v hs) : DrInv P ops (a + 1) { s with fr := fr, rs := (a, s.fr, v) :: s.rs } hs ((s.fr, o, v) :: rs) := by
  have hall : ∀ (l : List Hp), sameAt P o s.fr v l → ∀ h ∈ l, evReadOrPure P s.fr o h = some v := by
    intro l
    induction l with
    | nil => intro _ h hm; cases hm
    | cons x l ih =>
      intro hs h hm
      rcases List.mem_cons.1 hm with rfl | hm
      · exact hs.1
      · exact ih hs.2 h hm
  refine ⟨fun e he => by have := I.dn e he; omega, I.ef, fun d h hd e he => by have := I.lt d h hd e he; omega, I.bs, fun i f u hm => ?_, fun i f u hm => ?_, fun i f u hm d h hd had => ?_⟩
  · rcases List.mem_cons.1 hm with hm | hm
    · simp only [Prod.mk.injEq] at hm
      obtain ⟨rfl, rfl, rfl⟩ := hm
      exact ⟨by omega, ha, hk⟩
    · exact ⟨by have := (I.ri i f u hm).1; omega, (I.ri i f u hm).2⟩
  · rcases List.mem_cons.1 hm with hm | hm
    · simp only [Prod.mk.injEq] at hm
      obtain ⟨rfl, rfl, rfl⟩ := hm
      exact .inl ⟨o, ho, List.mem_cons_self ..⟩
    · rcases I.rw_ i f u hm with ⟨o', h1, h2⟩ | h
      · exact .inl ⟨o', h1, List.mem_cons_of_mem _ h2⟩
      · exact .inr h
  · rcases List.mem_cons.1 hm with hm | hm
    · simp only [Prod.mk.injEq] at hm
      obtain ⟨rfl, rfl, rfl⟩ := hm
      rcases I.bs d h hd with hh | ⟨e, he, hne, h4⟩
      · exact ⟨o, ho, hall hs hv h hh⟩
      · obtain ⟨h1, h2⟩ := I.ef e he
        have hlt := I.dn e he
        exact (adm_no_before (P := P) (List.mem_filter.2 ⟨List.mem_range.2 h2, by rw [h1]; rfl⟩) ((flag4 h4 ha hk).1 hlt) hne had).elim
    · exact I.rs i f u hm d h hd had

theorem DrInv.keep {a : Nat} {s : Trc} {hs : List Hp} {rs : List Rd} (I : DrInv P ops a s hs rs) (hk : kindAt P ops a = .eff) (ha : a < ops.size) (fr : Fr) (h1 : Hp) (hv : stillAt P h1 rs) :
    DrInv P ops (a + 1) { fr := fr, h := h1, done := a :: s.done, bs := (a :: s.done, h1) :: s.bs, rs := s.rs } (h1 :: hs) rs := by
  have hall : ∀ (l : List Rd), stillAt P h1 l → ∀ fr o v, (fr, o, v) ∈ l → evReadOrPure P fr o h1 = some v := by
    intro l
    induction l with
    | nil => intro _ f o v hm; cases hm
    | cons x l ih =>
      obtain ⟨f0, o0, v0⟩ := x
      intro hs f o v hm
      rcases List.mem_cons.1 hm with hm | hm
      · simp only [Prod.mk.injEq] at hm
        obtain ⟨rfl, rfl, rfl⟩ := hm
        exact hs.1
      · exact ih hs.2 f o v hm
  refine ⟨fun e he => ?_, fun e he => ?_, fun d h hd e he => ?_, fun d h hd => ?_, fun i f v hm => ⟨by have := (I.ri i f v hm).1; omega, (I.ri i f v hm).2⟩, fun i f v hm => ?_, fun i f v hm d h hd had => ?_⟩
  · rcases List.mem_cons.1 he with rfl | he
    · omega
    · have := I.dn e he; omega
  · rcases List.mem_cons.1 he with rfl | he
    · exact ⟨hk, ha⟩
    · exact I.ef e he
  · rcases List.mem_cons.1 hd with hd | hd
    · simp only [Prod.mk.injEq] at hd
      obtain ⟨rfl, rfl⟩ := hd
      rcases List.mem_cons.1 he with rfl | he
      · omega
      · have := I.dn e he; omega
    · have := I.lt d h hd e he; omega
  · rcases List.mem_cons.1 hd with hd | hd
    · simp only [Prod.mk.injEq] at hd
      obtain ⟨rfl, rfl⟩ := hd
      exact .inl (List.mem_cons_self ..)
    · rcases I.bs d h hd with hh | ⟨e, he, hne, h4⟩
      · exact .inl (List.mem_cons_of_mem _ hh)
      · exact .inr ⟨e, List.mem_cons_of_mem _ he, hne, h4⟩
  · rcases I.rw_ i f v hm with h | ⟨e, he, h2⟩
    · exact .inl h
    · exact .inr ⟨e, List.mem_cons_of_mem _ he, h2⟩
  · rcases List.mem_cons.1 hd with hd | hd
    · simp only [Prod.mk.injEq] at hd
      obtain ⟨rfl, rfl⟩ := hd
      rcases I.rw_ i f v hm with ⟨o, h2, h3⟩ | ⟨e, he, hlt, h4⟩
      · exact ⟨o, h2, hall rs hv f o v h3⟩
      · obtain ⟨q1, q2, q3⟩ := I.ri i f v hm
        exact (adm_no_after ((flag4 h4 q2 q3).2 (by omega)) (List.mem_cons_of_mem _ he) had).elim
    · exact I.rs i f v hm d h hd had

theorem DrInv.ordered {a : Nat} {s : Trc} {hs : List Hp} {rs : List Rd} (I : DrInv P ops a s hs rs) (hf : flagB P ops a 4 = true) (ha : a < ops.size) (fr : Fr) (h1 : Hp) :
    DrInv P ops (a + 1) { fr := fr, h := h1, done := a :: s.done, bs := (a :: s.done, h1) :: s.bs, rs := s.rs } [h1] [] := by
  have hk : kindAt P ops a = .eff := by unfold flagB at hf; simp only [Bool.and_eq_true] at hf; exact beq_iff_eq.1 hf.1
  refine ⟨fun e he => ?_, fun e he => ?_, fun d h hd e he => ?_, fun d h hd => ?_, fun i f v hm => ⟨by have := (I.ri i f v hm).1; omega, (I.ri i f v hm).2⟩, fun i f v hm => ?_, fun i f v hm d h hd had => ?_⟩
  · rcases List.mem_cons.1 he with rfl | he
    · omega
    · have := I.dn e he; omega
  · rcases List.mem_cons.1 he with rfl | he
    · exact ⟨hk, ha⟩
    · exact I.ef e he
  · rcases List.mem_cons.1 hd with hd | hd
    · simp only [Prod.mk.injEq] at hd
      obtain ⟨rfl, rfl⟩ := hd
      rcases List.mem_cons.1 he with rfl | he
      · omega
      · have := I.dn e he; omega
    · have := I.lt d h hd e he; omega
  · rcases List.mem_cons.1 hd with hd | hd
    · simp only [Prod.mk.injEq] at hd
      obtain ⟨rfl, rfl⟩ := hd
      exact .inl (List.mem_cons_self ..)
    · exact .inr ⟨a, List.mem_cons_self .., fun hm => by have := I.lt d h hd a hm; omega, hf⟩
  · exact .inr ⟨a, List.mem_cons_self .., (I.ri i f v hm).1, hf⟩
  · rcases List.mem_cons.1 hd with hd | hd
    · simp only [Prod.mk.injEq] at hd
      obtain ⟨rfl, rfl⟩ := hd
      obtain ⟨q1, q2, q3⟩ := I.ri i f v hm
      exact (adm_no_after ((flag4 hf q2 q3).2 (by omega)) (List.mem_cons_self ..) had).elim
    · exact I.rs i f v hm d h hd had
end

theorem evOp_pure {P : Program} {call : CallF} {fr : Fr} {o : Oper} {h h' : Hp} {v : Value} (hk : kindOf P o = .pure ∨ kindOf P o = .read) (e : evOp P call fr o h = some (v, h')) : h' = h := by
  unfold evOp at e
  rcases hk with hk | hk <;> rw [hk] at e
  all_goals
    obtain ⟨u, _, e2⟩ := Option.map_eq_some_iff.1 e
    simp only [Prod.mk.injEq] at e2
    exact e2.2.symm

theorem WpE_sound {ops : Array Oper} {Q : Fr → Hp → Prop} : ∀ (l : List Oper) (fl : List Nat) (a : Nat) (s : Trc) (hs : List Hp) (rs : List Rd), ops.toList.drop a = l → flagsB C.P ops a fl = true → DrInv C.P ops a s hs rs →
    WpE C ops fl l s.fr s.h hs rs Q → ∃ n s', trc C.P (evCall C n) ops (List.range' a l.length) s = some s' ∧ (∃ b hs rs, DrInv C.P ops b s' hs rs) ∧ Q s'.fr s'.h
  | [], fl, a, s, hs, rs, _, _, I, w => by
    cases fl with
    | nil => exact ⟨0, s, rfl, ⟨_, _, _, I⟩, w⟩
    | cons _ _ => exact w.elim
  | o :: l, fl, a, s, hs, rs, hl, hf, I, w => by
    cases fl with
    | nil => exact w.elim
    | cons f fl =>
      have ha : a < ops.size := by
        have : (ops.toList.drop a).length = l.length + 1 := by rw [hl]; rfl
        simp at this; omega
      have ho : ops[a]? = some o := by
        have : ops.toList[a]? = (ops.toList.drop a)[0]? := by simp
        rw [hl] at this; simpa using this
      have hl' : ops.toList.drop (a + 1) = l := by rw [← List.drop_drop, hl]; rfl
      have hk : kindAt C.P ops a = kindOf C.P o := kindAt_of ho
      unfold flagsB at hf
      simp only [Bool.and_eq_true] at hf
      obtain ⟨hf, hfl⟩ := hf
      obtain ⟨b, hb, w⟩ := w
      simp only [List.length_cons, List.range'_succ]
      have skip : ∀ s1 : Trc, (trcStep C.P (evCall C 0) ops s a = some s1 → ∀ n, trcStep C.P (evCall C n) ops s a = some s1) := fun s1 e n => trcStep_mono (fun _ _ _ _ h => by cases h) e
      have join : ∀ (n : Nat) (s1 : Trc), trcStep C.P (evCall C n) ops s a = some s1 → (∃ m s', trc C.P (evCall C m) ops (List.range' (a + 1) l.length) s1 = some s' ∧ (∃ b hs rs, DrInv C.P ops b s' hs rs) ∧ Q s'.fr s'.h) →
          ∃ n s', trc C.P (evCall C n) ops (a :: List.range' (a + 1) l.length) s = some s' ∧ (∃ b hs rs, DrInv C.P ops b s' hs rs) ∧ Q s'.fr s'.h := by
        rintro n s1 e1 ⟨m, s', e2, q⟩
        refine ⟨max n m, s', ?_, q⟩
        unfold trc
        rw [trcStep_mono (evCall_mono C (Nat.le_max_left n m)) e1]
        exact trc_mono (evCall_mono C (Nat.le_max_right n m)) _ e2
      cases b with
      | false =>
        have st : ∀ n, trcStep C.P (evCall C n) ops s a = bif kindOf C.P o == .eff then some { s with fr := put s.fr o.dst undef, done := a :: s.done, bs := (a :: s.done, s.h) :: s.bs } else some { s with fr := put s.fr o.dst undef } := fun n => by
          unfold trcStep; rw [ho]; simp only [hb]
        match f, hf, w with
        | 0, hf, w =>
          have hk' : kindOf C.P o = .pure := by rw [← hk]; exact beq_iff_eq.1 hf
          exact join 0 { s with fr := put s.fr o.dst undef } (by rw [st, hk']; rfl) (WpE_sound l fl (a + 1) { s with fr := put s.fr o.dst undef } hs rs hl' hfl (I.pure _ s.h) w)
        | 1, hf, w =>
          have hk' : kindOf C.P o = .read := by rw [← hk]; exact beq_iff_eq.1 hf
          exact join 0 { s with fr := put s.fr o.dst undef } (by rw [st, hk']; rfl) (WpE_sound l fl (a + 1) { s with fr := put s.fr o.dst undef } hs rs hl' hfl (I.pure _ s.h) w)
        | 2, hf, w =>
          have hk' : kindOf C.P o = .new := by rw [← hk]; exact beq_iff_eq.1 hf
          exact join 0 { s with fr := put s.fr o.dst undef } (by rw [st, hk']; rfl) (WpE_sound l fl (a + 1) { s with fr := put s.fr o.dst undef } hs rs hl' hfl (I.pure _ s.h) w)
        | 3, hf, w =>
          have hk' : kindOf C.P o = .eff := by rw [← hk]; exact beq_iff_eq.1 hf
          exact join 0 _ (by rw [st, hk']; rfl) (WpE_sound l fl (a + 1) _ (s.h :: hs) rs hl' hfl (I.keep (by rw [hk, hk']) ha _ s.h w.1) w.2)
        | 4, hf, w =>
          have hk' : kindOf C.P o = .eff := by rw [← hk]; unfold flagB at hf; simp only [Bool.and_eq_true] at hf; exact beq_iff_eq.1 hf.1
          exact join 0 _ (by rw [st, hk']; rfl) (WpE_sound l fl (a + 1) _ [s.h] [] hl' hfl (I.ordered hf ha _ s.h) w)
      | true =>
        obtain ⟨n, v, h', hv, w⟩ := w
        have st : trcStep C.P (evCall C n) ops s a = match kindOf C.P o with
            | .eff => some { fr := put s.fr o.dst v, h := h', done := a :: s.done, bs := (a :: s.done, h') :: s.bs, rs := s.rs }
            | .read => some { s with fr := put s.fr o.dst v, h := h', rs := (a, s.fr, v) :: s.rs }
            | _ => some { s with fr := put s.fr o.dst v, h := h' } := by
          unfold trcStep; rw [ho]; simp only [hb, hv]
          cases kindOf C.P o <;> rfl
        match f, hf, w with
        | 0, hf, w =>
          have hk' : kindOf C.P o = .pure := by rw [← hk]; exact beq_iff_eq.1 hf
          obtain rfl := evOp_pure (.inl hk') hv
          exact join n { s with fr := put s.fr o.dst v } (by rw [st, hk']) (WpE_sound l fl (a + 1) { s with fr := put s.fr o.dst v } hs rs hl' hfl (I.pure _ s.h) w)
        | 1, hf, w =>
          have hk' : kindOf C.P o = .read := by rw [← hk]; exact beq_iff_eq.1 hf
          obtain rfl := evOp_pure (.inr hk') hv
          exact join n { s with fr := put s.fr o.dst v, rs := (a, s.fr, v) :: s.rs } (by rw [st, hk']) (WpE_sound l fl (a + 1) _ hs _ hl' hfl (I.read ho (by rw [hk, hk']) ha _ w.1) w.2)
        | 2, hf, w =>
          have hk' : kindOf C.P o = .new := by rw [← hk]; exact beq_iff_eq.1 hf
          exact join n { s with fr := put s.fr o.dst v, h := h' } (by rw [st, hk']) (WpE_sound l fl (a + 1) { s with fr := put s.fr o.dst v, h := h' } hs rs hl' hfl (I.pure _ h') w)
        | 3, hf, w =>
          have hk' : kindOf C.P o = .eff := by rw [← hk]; exact beq_iff_eq.1 hf
          exact join n _ (by rw [st, hk']; rfl) (WpE_sound l fl (a + 1) _ (h' :: hs) rs hl' hfl (I.keep (by rw [hk, hk']) ha _ h' w.1) w.2)
        | 4, hf, w =>
          have hk' : kindOf C.P o = .eff := by rw [← hk]; unfold flagB at hf; simp only [Bool.and_eq_true] at hf; exact beq_iff_eq.1 hf.1
          exact join n _ (by rw [st, hk']; rfl) (WpE_sound l fl (a + 1) _ [h'] [] hl' hfl (I.ordered hf ha _ h') w)

/-- THE RULE: a region that draws. -/
theorem Wp_drawE {i : Nat} {ops : Array Oper} {fr : Fr} {h : Hp} {Q : Ex → Fr → Hp → Prop} (fl : List Nat) (hB : KR (drawB C.P ops fl)) (w : WpE C ops fl ops.toList fr h [h] [] (doneP Q)) :
    Wp C (.region i ops true) fr h Q := by
  have hB := hB.eq
  unfold drawB at hB
  simp only [Bool.and_eq_true, beq_iff_eq] at hB
  obtain ⟨⟨hS, _⟩, hF⟩ := hB
  have I0 : DrInv C.P ops 0 ⟨fr, h, [], [([], h)], []⟩ [h] [] :=
    ⟨fun _ he => (by cases he), fun _ he => (by cases he), fun d k hd e he => (by simp at hd; obtain ⟨rfl, _⟩ := hd; cases he), fun d k hd => (by simp at hd; exact .inl (by simp [hd.2])), fun _ _ _ hm => (by cases hm), fun _ _ _ hm => (by cases hm), fun _ _ _ hm => (by cases hm)⟩
  obtain ⟨n, s', e1, ⟨_, _, _, I⟩, q⟩ := WpE_sound (C := C) ops.toList fl 0 ⟨fr, h, [], [([], h)], []⟩ [h] [] (by simp) hF I0 w
  refine ⟨n, .norm, s'.fr, s'.h, ?_, q⟩
  unfold evCode
  simp only [cond_true]
  unfold evDraw
  rw [hS, show List.range ops.size = List.range' 0 ops.toList.length by rw [List.range_eq_range']; simp, e1]
  have hr : List.range' 0 ops.toList.length = List.range ops.size := by rw [List.range_eq_range']; simp
  have : readsOk C.P ops ((List.range ops.size).filter fun j => kindAt C.P ops j == .eff) s' = true := by
    unfold readsOk
    rw [List.all_eq_true]
    rintro ⟨i, f, v⟩ hm
    rw [List.all_eq_true]
    rintro ⟨d, k⟩ hd
    simp only [Bool.or_eq_true, Bool.not_eq_true']
    cases hadm : adm (Region.before ops) ((List.range ops.size).filter fun j => kindAt C.P ops j == .eff) i d with
    | false => exact .inl rfl
    | true =>
      obtain ⟨o, h1, h2⟩ := I.rs i f v hm d k hd hadm
      right
      rw [h1]
      simp only [h2, veq_refl]
  rw [hr]
  simp only [this, cond_true]

/-! the rule's steps -/
section
variable {ops : Array Oper} {f : Nat} {fl : List Nat} {o : Oper} {l : List Oper} {fr : Fr} {h h' : Hp} {hs : List Hp} {rs : List Rd} {Q : Fr → Hp → Prop} {v : Value}
def stepE (C : Ctx) (ops : Array Oper) (fl : List Nat) (l : List Oper) (o : Oper) (fr : Fr) (h : Hp) (hs : List Hp) (rs : List Rd) (Q : Fr → Hp → Prop) (f : Nat) (v : Value) (h' : Hp) : Prop := match f with
  | 0 => WpE C ops fl l (put fr o.dst v) h hs rs Q
  | 1 => sameAt C.P o fr v hs ∧ WpE C ops fl l (put fr o.dst v) h hs ((fr, o, v) :: rs) Q
  | 2 => WpE C ops fl l (put fr o.dst v) h' hs rs Q
  | 3 => stillAt C.P h' rs ∧ WpE C ops fl l (put fr o.dst v) h' (h' :: hs) rs Q
  | _ => WpE C ops fl l (put fr o.dst v) h' [h'] [] Q
def skipE (C : Ctx) (ops : Array Oper) (fl : List Nat) (l : List Oper) (o : Oper) (fr : Fr) (h : Hp) (hs : List Hp) (rs : List Rd) (Q : Fr → Hp → Prop) (f : Nat) : Prop := match f with
  | 3 => stillAt C.P h rs ∧ WpE C ops fl l (put fr o.dst undef) h (h :: hs) rs Q
  | 4 => WpE C ops fl l (put fr o.dst undef) h [h] [] Q
  | _ => WpE C ops fl l (put fr o.dst undef) h hs rs Q
def kWantE (C : Ctx) (ops : Array Oper) (fl : List Nat) (l : List Oper) (o : Oper) (fr : Fr) (h : Hp) (hs : List Hp) (rs : List Rd) (Q : Fr → Hp → Prop) (f : Nat) (b : Bool) : Prop :=
  bif b then WpP C o fr h (stepE C ops fl l o fr h hs rs Q f) else skipE C ops fl l o fr h hs rs Q f
theorem kWantE_true : kWantE C ops fl l o fr h hs rs Q f true = WpP C o fr h (stepE C ops fl l o fr h hs rs Q f) := rfl
theorem kWantE_false : kWantE C ops fl l o fr h hs rs Q f false = skipE C ops fl l o fr h hs rs Q f := rfl
theorem WpE_nil : WpE C ops [] [] fr h hs rs Q = Q fr h := by unfold WpE; rfl
theorem WpE_cons : WpE C ops (f :: fl) (o :: l) fr h hs rs Q = onSome (evWanted ops fr o) (kWantE C ops fl l o fr h hs rs Q f) := by
  unfold WpE onSome
  refine propext ⟨fun ⟨b, h1, h2⟩ => ⟨b, h1, ?_⟩, fun ⟨b, h1, h2⟩ => ⟨b, h1, ?_⟩⟩
  · cases b with
    | true => exact h2
    | false => exact h2
  · cases b with
    | true => exact h2
    | false => exact h2
theorem stepE_0 : stepE C ops fl l o fr h hs rs Q 0 v h' = WpE C ops fl l (put fr o.dst v) h hs rs Q := rfl
theorem stepE_1 : stepE C ops fl l o fr h hs rs Q 1 v h' = (sameAt C.P o fr v hs ∧ WpE C ops fl l (put fr o.dst v) h hs ((fr, o, v) :: rs) Q) := rfl
theorem stepE_2 : stepE C ops fl l o fr h hs rs Q 2 v h' = WpE C ops fl l (put fr o.dst v) h' hs rs Q := rfl
theorem stepE_3 : stepE C ops fl l o fr h hs rs Q 3 v h' = (stillAt C.P h' rs ∧ WpE C ops fl l (put fr o.dst v) h' (h' :: hs) rs Q) := rfl
theorem stepE_4 : stepE C ops fl l o fr h hs rs Q 4 v h' = WpE C ops fl l (put fr o.dst v) h' [h'] [] Q := rfl
theorem skipE_0 : skipE C ops fl l o fr h hs rs Q 0 = WpE C ops fl l (put fr o.dst undef) h hs rs Q := rfl
theorem skipE_1 : skipE C ops fl l o fr h hs rs Q 1 = WpE C ops fl l (put fr o.dst undef) h hs rs Q := rfl
theorem skipE_2 : skipE C ops fl l o fr h hs rs Q 2 = WpE C ops fl l (put fr o.dst undef) h hs rs Q := rfl
theorem skipE_3 : skipE C ops fl l o fr h hs rs Q 3 = (stillAt C.P h rs ∧ WpE C ops fl l (put fr o.dst undef) h (h :: hs) rs Q) := rfl
theorem skipE_4 : skipE C ops fl l o fr h hs rs Q 4 = WpE C ops fl l (put fr o.dst undef) h [h] [] Q := rfl
theorem put_some {d : Tmp} : put fr (some d) v = fr.set d v := rfl
theorem put_none : put fr none v = fr := rfl
variable {P : Program} {d : Option Tmp} {ty t : TypeId} {p : String} {af : Array Edge} {g : Option (Nat × Bool)} {x y : Operand}
theorem sameAt_nil : sameAt P o fr v [] = True := rfl
theorem stillAt_nil : stillAt P h [] = True := rfl
theorem bind_same {α : Type} (x : Option α) (f g : α → Option Value) (hx : ∀ a, f a = g a) : x.bind f = x.bind g := by cases x <;> simp [hx]
theorem read_load : evReadOrPure P fr ⟨d, .load t x, ty, p, af, g⟩ h = (ev1 fr x).bind fun a => evLoad P t a h := by
  unfold evReadOrPure; simp only [evRead, evPure]; cases ((ev1 fr x).bind fun a => evLoad P t a h) <;> rfl
theorem read_lookup {i : Operand} {ok : Bool} : evReadOrPure P fr ⟨d, .lookup t x i ok, ty, p, af, g⟩ h = (ev1 fr x).bind fun a => (ev1 fr i).bind fun b => evLookup P t a b ok h := by
  unfold evReadOrPure; simp only [evRead, evPure]; cases ((ev1 fr x).bind fun a => (ev1 fr i).bind fun b => evLookup P t a b ok h) <;> rfl
theorem sameAt_load : sameAt P ⟨d, .load t x, ty, p, af, g⟩ fr v (h :: hs) = (((ev1 fr x).bind fun a => evLoad P t a h) = some v ∧ sameAt P ⟨d, .load t x, ty, p, af, g⟩ fr v hs) := by
  rw [← read_load (d := d) (ty := ty) (p := p) (af := af) (g := g)]; rfl
theorem sameAt_lookup {i : Operand} {ok : Bool} : sameAt P ⟨d, .lookup t x i ok, ty, p, af, g⟩ fr v (h :: hs) = (((ev1 fr x).bind fun a => (ev1 fr i).bind fun b => evLookup P t a b ok h) = some v ∧ sameAt P ⟨d, .lookup t x i ok, ty, p, af, g⟩ fr v hs) := by
  rw [← read_lookup (d := d) (ty := ty) (p := p) (af := af) (g := g)]; rfl
theorem stillAt_load : stillAt P h ((fr, ⟨d, .load t x, ty, p, af, g⟩, v) :: rs) = (((ev1 fr x).bind fun a => evLoad P t a h) = some v ∧ stillAt P h rs) := by
  rw [← read_load (d := d) (ty := ty) (p := p) (af := af) (g := g)]; rfl
theorem stillAt_lookup {i : Operand} {ok : Bool} : stillAt P h ((fr, ⟨d, .lookup t x i ok, ty, p, af, g⟩, v) :: rs) = (((ev1 fr x).bind fun a => (ev1 fr i).bind fun b => evLookup P t a b ok h) = some v ∧ stillAt P h rs) := by
  rw [← read_lookup (d := d) (ty := ty) (p := p) (af := af) (g := g)]; rfl
end
theorem evd : type_of% @WpE_nil ∧ type_of% @WpE_cons ∧ type_of% @kWantE_true ∧ type_of% @kWantE_false ∧ type_of% @stepE_0 ∧ type_of% @stepE_1 ∧ type_of% @stepE_2 ∧ type_of% @stepE_3 ∧ type_of% @stepE_4 ∧ type_of% @skipE_0 ∧ type_of% @skipE_1 ∧ type_of% @skipE_2 ∧ type_of% @skipE_3 ∧ type_of% @skipE_4 ∧
    type_of% @put_some ∧ type_of% @put_none ∧ type_of% @sameAt_nil ∧ type_of% @stillAt_nil ∧ type_of% @sameAt_load ∧ type_of% @sameAt_lookup ∧ type_of% @stillAt_load ∧ type_of% @stillAt_lookup :=
  ⟨@WpE_nil, @WpE_cons, @kWantE_true, @kWantE_false, @stepE_0, @stepE_1, @stepE_2, @stepE_3, @stepE_4, @skipE_0, @skipE_1, @skipE_2, @skipE_3, @skipE_4, @put_some, @put_none, @sameAt_nil, @stillAt_nil, @sameAt_load, @sameAt_lookup, @stillAt_load, @stillAt_lookup⟩
end Go.Ev
