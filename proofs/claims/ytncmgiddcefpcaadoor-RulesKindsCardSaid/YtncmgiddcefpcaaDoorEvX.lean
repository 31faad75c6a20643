/- Ev: a region that draws, makes no block, and has each read ordered against each effect, is carried out as its text stands. -/
import Derived.Test.YtncmgiddcefpcaaDoorEvT
namespace Go.Ev
open Go
set_option linter.unusedSimpArgs false
set_option linter.unusedVariables false

/-- A fact that the kernel finds by evaluation. -/
structure KR (b : Bool) : Prop where
  eq : b = true

def ordB (P : Program) (ops : Array Oper) : Bool :=
  let ms := Region.before ops
  (sched P ops == List.range ops.size) && ops.toList.all (fun o => !(kindOf P o == .new)) &&
  (List.range ops.size).all fun i => !(kindAt P ops i == .read) || (List.range ops.size).all fun e => !(kindAt P ops e == .eff) || (bif decide (e < i) then bit ms i e else bit ms e i)

section
variable {P : Program} {ops : Array Oper} {call : CallF}

structure OrdInv (P : Program) (ops : Array Oper) (a : Nat) (s : Trc) : Prop where
  dn : ∀ e ∈ s.done, e < a ∧ kindAt P ops e = .eff
  lt : ∀ d h, (d, h) ∈ s.bs → ∀ e ∈ d, e < a
  bs : ∀ d h, (d, h) ∈ s.bs → (d = s.done ∧ h = s.h) ∨ ∃ e ∈ s.done, e ∉ d
  ri : ∀ i fr v, (i, fr, v) ∈ s.rs → i < a ∧ kindAt P ops i = .read
  rs : ∀ i fr v, (i, fr, v) ∈ s.rs → ∀ d h, (d, h) ∈ s.bs → adm (Region.before ops) ((List.range ops.size).filter fun j => kindAt P ops j == .eff) i d = true → ∃ o, ops[i]? = some o ∧ evReadOrPure P fr o h = some v

theorem kindAt_of {a : Nat} {o : Oper} (ho : ops[a]? = some o) : kindAt P ops a = kindOf P o := by unfold kindAt; rw [ho]

theorem OrdInv.pure {a : Nat} {s : Trc} (I : OrdInv P ops a s) (fr : Fr) : OrdInv P ops (a + 1) { s with fr := fr } :=
  ⟨fun e he => ⟨by have := (I.dn e he).1; omega, (I.dn e he).2⟩, fun d h hd e he => by have := I.lt d h hd e he; omega, I.bs, fun i f v hm => ⟨by have := (I.ri i f v hm).1; omega, (I.ri i f v hm).2⟩, I.rs⟩

theorem OrdInv.eff {a : Nat} {s : Trc} (I : OrdInv P ops a s) (hk : kindAt P ops a = .eff) (ha : a < ops.size)
    (hs : ∀ i, i < a → kindAt P ops i = .read → bit (Region.before ops) a i = true) (fr : Fr) (h1 : Hp) :
    OrdInv P ops (a + 1) { fr := fr, h := h1, done := a :: s.done, bs := (a :: s.done, h1) :: s.bs, rs := s.rs } := by
  refine ⟨fun e he => ?_, fun d h hd e he => ?_, fun d h hd => ?_, fun i f v hm => ⟨by have := (I.ri i f v hm).1; omega, (I.ri i f v hm).2⟩, fun i f v hm d h hd had => ?_⟩
  · rcases List.mem_cons.1 he with rfl | he
    · exact ⟨by omega, hk⟩
    · exact ⟨by have := (I.dn e he).1; omega, (I.dn e he).2⟩
  · rcases List.mem_cons.1 hd with hd | hd
    · simp only [Prod.mk.injEq] at hd
      obtain ⟨rfl, rfl⟩ := hd
      rcases List.mem_cons.1 he with rfl | he
      · omega
      · have := (I.dn e he).1; omega
    · have := I.lt d h hd e he; omega
  · rcases List.mem_cons.1 hd with hd | hd
    · simp only [Prod.mk.injEq] at hd
      exact .inl hd
    · exact .inr ⟨a, List.mem_cons_self .., fun hm => by have := I.lt d h hd a hm; omega⟩
  · rcases List.mem_cons.1 hd with hd | hd
    · simp only [Prod.mk.injEq] at hd
      obtain ⟨rfl, rfl⟩ := hd
      obtain ⟨h1, h2⟩ := I.ri i f v hm
      have hb := hs i h1 h2
      unfold adm at had
      simp only [Bool.and_eq_true, List.all_eq_true] at had
      have := had.2 a (List.mem_cons_self ..)
      rw [hb] at this; cases this
    · exact I.rs i f v hm d h hd had

theorem OrdInv.read {a : Nat} {s : Trc} (I : OrdInv P ops a s) {o : Oper} (ho : ops[a]? = some o) (hk : kindAt P ops a = .read) (ha : a < ops.size)
    (hs : ∀ e, e < a → kindAt P ops e = .eff → bit (Region.before ops) a e = true) {v : Value} (hv : evReadOrPure P s.fr o s.h = some v) (fr : Fr) :
    OrdInv P ops (a + 1) { s with fr := fr, rs := (a, s.fr, v) :: s.rs } := by
  refine ⟨fun e he => ⟨by have := (I.dn e he).1; omega, (I.dn e he).2⟩, fun d h hd e he => by have := I.lt d h hd e he; omega, I.bs, fun i f u hm => ?_, fun i f u hm d h hd had => ?_⟩
  · rcases List.mem_cons.1 hm with hm | hm
    · simp only [Prod.mk.injEq] at hm
      obtain ⟨rfl, rfl, rfl⟩ := hm
      exact ⟨by omega, hk⟩
    · exact ⟨by have := (I.ri i f u hm).1; omega, (I.ri i f u hm).2⟩
  · rcases List.mem_cons.1 hm with hm | hm
    · simp only [Prod.mk.injEq] at hm
      obtain ⟨rfl, rfl, rfl⟩ := hm
      rcases I.bs d h hd with ⟨_, rfl⟩ | ⟨e, he, hne⟩
      · exact ⟨o, ho, hv⟩
      · obtain ⟨h1, h2⟩ := I.dn e he
        have hb := hs e h1 h2
        unfold adm at had
        simp only [Bool.and_eq_true, List.all_eq_true] at had
        have := had.1 e (List.mem_filter.2 ⟨List.mem_range.2 (by omega), by rw [h2]; rfl⟩)
        rw [hb] at this
        simp at this
        exact absurd this hne
    · exact I.rs i f u hm d h hd had

theorem ordB_spec (h : ordB P ops = true) : sched P ops = List.range ops.size ∧ (∀ o ∈ ops.toList, kindOf P o ≠ .new) ∧
    ∀ i e, i < ops.size → e < ops.size → kindAt P ops i = .read → kindAt P ops e = .eff → (e < i → bit (Region.before ops) i e = true) ∧ (i < e → bit (Region.before ops) e i = true) := by
  unfold ordB at h
  simp only [Bool.and_eq_true, beq_iff_eq, List.all_eq_true, Bool.or_eq_true, Bool.not_eq_true', beq_eq_false_iff_ne, List.mem_range] at h
  obtain ⟨⟨h1, h2⟩, h3⟩ := h
  refine ⟨h1, h2, fun i e hi he ki ke => ?_⟩
  rcases h3 i hi with h4 | h4
  · exact absurd ki h4
  · rcases h4 e he with h5 | h5
    · exact absurd ke h5
    · refine ⟨fun hlt => ?_, fun hlt => ?_⟩
      · rw [decide_eq_true hlt] at h5; exact h5
      · rw [decide_eq_false (by omega)] at h5; exact h5

theorem trc_ord (hB : ordB P ops = true) : ∀ (l : List Oper) (a : Nat) (s : Trc), ops.toList.drop a = l → OrdInv P ops a s →
    (match evOps P call ops l s.fr s.h with
    | some (fr', h') => ∃ s', trc P call ops (List.range' a l.length) s = some s' ∧ s'.fr = fr' ∧ s'.h = h' ∧ OrdInv P ops (a + l.length) s'
    | none => trc P call ops (List.range' a l.length) s = none)
  | [], a, s, _, I => ⟨s, rfl, rfl, rfl, I⟩
  | o :: l, a, s, hl, I => by
    obtain ⟨_, hN, hO⟩ := ordB_spec hB
    have ha : a < ops.size := by
      have : (ops.toList.drop a).length = l.length + 1 := by rw [hl]; rfl
      simp at this; omega
    have ho : ops[a]? = some o := by
      have : ops.toList[a]? = (ops.toList.drop a)[0]? := by simp
      rw [hl] at this; simpa using this
    have hl' : ops.toList.drop (a + 1) = l := by rw [← List.drop_drop, hl]; rfl
    have hmem : o ∈ ops.toList := by have := List.mem_of_getElem? (l := ops.toList) (i := a) (a := o) (by simpa using ho); exact this
    have ih := fun s I => trc_ord hB l (a + 1) s hl' I
    have hk : kindAt P ops a = kindOf P o := kindAt_of ho
    simp only [List.length_cons, List.range'_succ]
    unfold evOps trc trcStep
    rw [ho]
    simp only
    have fin : a + (l.length + 1) = a + 1 + l.length := by omega
    cases hw : evWanted ops s.fr o with
    | none => simp
    | some b =>
      cases b with
      | false =>
        simp only
        cases hq : (kindOf P o == Kd.eff) with
        | true =>
          simp only [cond_true]
          rw [fin]
          exact ih _ (I.eff (by rw [hk]; exact beq_iff_eq.1 hq) ha (fun i hi ki => (hO i a (by omega) ha ki (by rw [hk]; exact beq_iff_eq.1 hq)).2 hi) (put s.fr o.dst undef) s.h)
        | false => simp only [cond_false]; rw [fin]; exact ih _ (I.pure _)
      | true =>
        simp only
        cases he : evOp P call s.fr o s.h with
        | none => simp
        | some r =>
          obtain ⟨v, h1⟩ := r
          simp only
          rw [fin]
          cases hq : kindOf P o with
          | read =>
            have hv : evReadOrPure P s.fr o s.h = some v ∧ h1 = s.h := by
              unfold evOp at he; rw [hq] at he
              obtain ⟨u, e1, e2⟩ := Option.map_eq_some_iff.1 he
              simp only [Prod.mk.injEq] at e2
              obtain ⟨rfl, rfl⟩ := e2
              exact ⟨e1, rfl⟩
            obtain ⟨hv, rfl⟩ := hv
            exact ih _ (I.read ho (by rw [hk, hq]) ha (fun e h1 h2 => (hO a e ha (by omega) (by rw [hk, hq]) h2).1 h1) hv _)
          | pure =>
            have : h1 = s.h := by
              unfold evOp at he; rw [hq] at he
              obtain ⟨u, e1, e2⟩ := Option.map_eq_some_iff.1 he
              simp only [Prod.mk.injEq] at e2
              exact e2.2.symm
            subst this
            exact ih _ (I.pure _)
          | new => exact absurd hq (hN o hmem)
          | eff => exact ih _ (I.eff (by rw [hk, hq]) ha (fun i hi ki => (hO i a (by omega) ha ki (by rw [hk, hq])).2 hi) _ _)

theorem evDraw_ord (hB : ordB P ops = true) (n : Nat) (fr : Fr) (h : Hp) : evDraw P call n ops fr h = evOps P call ops ops.toList fr h := by
  obtain ⟨hS, _, _⟩ := ordB_spec hB
  have I0 : OrdInv P ops 0 ⟨fr, h, [], [([], h)], []⟩ :=
    ⟨fun _ he => (by cases he), fun d k hd e he => (by simp at hd; obtain ⟨rfl, _⟩ := hd; cases he), fun d k hd => (by simp at hd; exact .inl hd), fun _ _ _ hm => (by cases hm), fun _ _ _ hm => (by cases hm)⟩
  have key := trc_ord (call := call) hB ops.toList 0 ⟨fr, h, [], [([], h)], []⟩ (by simp) I0
  have hr : List.range' 0 ops.toList.length = List.range ops.size := by rw [List.range_eq_range']; simp
  rw [hr] at key
  unfold evDraw
  rw [hS]
  cases he : evOps P call ops ops.toList fr h with
  | none => simp only [he] at key; rw [key]
  | some r =>
    obtain ⟨fr', h'⟩ := r
    simp only [he] at key
    obtain ⟨s', e1, rfl, rfl, I⟩ := key
    rw [e1]
    simp only
    have : readsOk P ops ((List.range ops.size).filter fun j => kindAt P ops j == .eff) s' = true := by
      unfold readsOk
      rw [List.all_eq_true]
      rintro ⟨i, f, v⟩ hm
      rw [List.all_eq_true]
      rintro ⟨d, k⟩ hd
      simp only [Bool.or_eq_true, Bool.not_eq_true']
      cases hadm : adm (Region.before ops) ((List.range ops.size).filter fun j => kindAt P ops j == .eff) i d with
      | false => exact .inl rfl
      | true =>
        obtain ⟨o, h1, h2⟩ := I.rs i f v hm d k hd hadm
        right
        rw [h1]
        simp only [h2, veq_refl]
    rw [this]; rfl
end

theorem Wp_drawOrd {C : Ctx} {i : Nat} {ops : Array Oper} {fr : Fr} {h : Hp} {Q : Ex → Fr → Hp → Prop} (hn : KR (ordB C.P ops)) :
    Wp C (.region i ops true) fr h Q = WpO C ops ops.toList fr h (doneP Q) := by
  refine propext ⟨fun ⟨n, e, fr', h', e1, q⟩ => ?_, fun ⟨n, fr', h', e, q⟩ => ?_⟩
  · unfold evCode at e1
    simp only [cond_true, evDraw_ord hn.eq] at e1
    split at e1
    · rename_i fr1 h1 h2
      simp only [Option.some.injEq, Prod.mk.injEq] at e1
      obtain ⟨rfl, rfl, rfl⟩ := e1
      exact ⟨n, _, _, h2, q⟩
    · cases e1
  · refine ⟨n, .norm, fr', h', ?_, q⟩
    unfold evCode
    simp only [cond_true, evDraw_ord hn.eq, e]
end Go.Ev
