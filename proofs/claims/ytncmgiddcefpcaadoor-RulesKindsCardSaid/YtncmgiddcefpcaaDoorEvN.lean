/- The edges of a region, closed; the trace of a region that draws. -/
import Derived.Test.YtncmgiddcefpcaaDoorEvM
namespace Go.Ev
open Go
set_option linter.unusedSimpArgs false
set_option linter.unusedVariables false

def maskOf (acc : Array Nat) (o : Oper) : Nat := o.after.foldl (fun s e => if Region.binds .any e then s ||| 2 ^ e.on ||| acc.getD e.on 0 else s) 0

theorem maskOf_bit (acc : Array Nat) (o : Oper) (i : Nat) (h : (maskOf acc o).testBit i = true) : ∃ e ∈ o.after, Region.binds .any e = true ∧ (i = e.on ∨ (acc.getD e.on 0).testBit i = true) := by
  unfold maskOf at h
  rw [← Array.foldl_toList] at h
  have key : ∀ (l : List Edge) (s : Nat), (l.foldl (fun s e => if Region.binds .any e then s ||| 2 ^ e.on ||| acc.getD e.on 0 else s) s).testBit i = true → s.testBit i = true ∨ ∃ e ∈ l, Region.binds .any e = true ∧ (i = e.on ∨ (acc.getD e.on 0).testBit i = true) := by
    intro l
    induction l with
    | nil => intro s h; exact .inl h
    | cons e l ih =>
      intro s h
      simp only [List.foldl_cons] at h
      rcases ih _ h with h1 | ⟨e', h1, h2⟩
      · cases hb : Region.binds .any e with
        | false => rw [hb] at h1; simp at h1; exact .inl h1
        | true =>
          rw [hb] at h1
          simp only [if_true, Nat.testBit_or, Bool.or_eq_true] at h1
          rcases h1 with (h1 | h1) | h1
          · exact .inl h1
          · refine .inr ⟨e, by simp, hb, .inl ?_⟩
            rw [Nat.testBit_two_pow] at h1
            simp at h1; exact h1.symm
          · exact .inr ⟨e, by simp, hb, .inr h1⟩
      · exact .inr ⟨e', by simp [h1], h2⟩
  rcases key _ _ h with h1 | ⟨e, h1, h2⟩
  · simp at h1
  · exact ⟨e, by simpa using h1, h2⟩

theorem before_go : ∀ (l : List Oper) (acc : Array Nat), (l.foldl (fun acc o => acc.push (maskOf acc o)) acc).size = acc.size + l.length ∧
    (∀ j, j < acc.size → (l.foldl (fun acc o => acc.push (maskOf acc o)) acc)[j]? = acc[j]?) ∧
    ∀ (k : Nat) (o : Oper), l[k]? = some o → ∃ acc' : Array Nat, acc'.size = acc.size + k ∧ (∀ j, j < acc'.size → (l.foldl (fun acc o => acc.push (maskOf acc o)) acc)[j]? = acc'[j]?) ∧ (l.foldl (fun acc o => acc.push (maskOf acc o)) acc)[acc.size + k]? = some (maskOf acc' o)
  | [], acc => ⟨by simp, fun _ _ => rfl, fun k o h => by simp at h⟩
  | x :: l, acc => by
    obtain ⟨h1, h2, h3⟩ := before_go l (acc.push (maskOf acc x))
    simp only [List.foldl_cons, Array.size_push] at h1 h2 h3 ⊢
    refine ⟨by rw [h1]; simp; omega, fun j hj => ?_, fun k o ho => ?_⟩
    · rw [h2 j (by omega), Array.getElem?_push, if_neg (by omega)]
    · cases k with
      | zero =>
        simp at ho; subst ho
        refine ⟨acc, rfl, fun j hj => ?_, ?_⟩
        · rw [h2 j (by omega), Array.getElem?_push, if_neg (by omega)]
        · rw [Nat.add_zero, h2 _ (by omega)]; simp
      | succ k =>
        simp at ho
        obtain ⟨acc', g1, g2, g3⟩ := h3 k o ho
        exact ⟨acc', by omega, g2, by rw [show acc.size + (k + 1) = acc.size + 1 + k by omega]; exact g3⟩

theorem before_spec {ops : Array Oper} {j : Nat} {o : Oper} (ho : ops[j]? = some o) {i : Nat} (h : bit (Region.before ops) j i = true) :
    ∃ e ∈ o.after, Region.binds .any e = true ∧ (i = e.on ∨ (e.on < j ∧ bit (Region.before ops) e.on i = true)) := by
  have hb : Region.before ops = ops.toList.foldl (fun acc o => acc.push (maskOf acc o)) #[] := by
    unfold Region.before maskOf
    rw [← Array.foldl_toList]
  obtain ⟨_, _, h3⟩ := before_go ops.toList #[]
  obtain ⟨acc', g1, g2, g3⟩ := h3 j o (by simpa using ho)
  rw [← hb] at g2 g3
  simp only [List.size_toArray, List.length_nil, Nat.zero_add] at g1 g3
  unfold bit at h
  rw [Array.getD_eq_getD_getElem?, g3] at h
  simp only [Option.getD_some] at h
  obtain ⟨e, he, hbnd, hor⟩ := maskOf_bit _ _ _ h
  refine ⟨e, he, hbnd, ?_⟩
  rcases hor with h1 | h1
  · exact .inl h1
  · right
    by_cases hlt : e.on < j
    · refine ⟨hlt, ?_⟩
      unfold bit
      rw [Array.getD_eq_getD_getElem?] at h1 ⊢
      rw [g2 e.on (by omega)]
      exact h1
    · rw [Array.getD_eq_getD_getElem?, Array.getElem?_eq_none (by omega)] at h1
      simp at h1

/-- A set of operations that holds with each all that it waits for. -/
def Closed (ops : Array Oper) (D : Nat → Prop) : Prop := ∀ j o, ops[j]? = some o → D j → ∀ e ∈ o.after, Region.binds .any e = true → D e.on

theorem closed_bit {ops : Array Oper} {D : Nat → Prop} (hD : Closed ops D) : ∀ (j : Nat) (o : Oper), ops[j]? = some o → (∀ e ∈ o.after, Region.binds .any e = true → D e.on) → ∀ i, bit (Region.before ops) j i = true → D i := by
  intro j
  induction j using Nat.strongRecOn with
  | _ j ih =>
    intro o ho hall i hb
    obtain ⟨e, he, hbnd, hor⟩ := before_spec ho hb
    rcases hor with h1 | ⟨h1, h2⟩
    · subst h1; exact hall e he hbnd
    · have hDe := hall e he hbnd
      have hlt : e.on < ops.size := by have := (Array.getElem?_eq_some_iff.1 ho).1; omega
      exact ih e.on h1 ops[e.on] (Array.getElem?_eq_getElem hlt) (fun e' he' hb' => hD e.on _ (Array.getElem?_eq_getElem hlt) hDe e' he' hb') i h2

/-! ### the static look -/
theorem pairsAll_spec {f : Nat → Nat → Bool} : ∀ {l : List Nat}, pairsAll f l = true → ∀ (p q : Nat) (i j : Nat), p < q → l[p]? = some i → l[q]? = some j → f i j = true
  | [], _, p, q, i, j, _, h, _ => by simp at h
  | x :: l, h, p, q, i, j, hpq, hi, hj => by
    simp only [pairsAll, Bool.and_eq_true, List.all_eq_true] at h
    cases q with
    | zero => omega
    | succ q =>
      simp at hj
      cases p with
      | zero => simp at hi; subst hi; exact h.1 j (List.mem_of_getElem? hj)
      | succ p => simp at hi; exact pairsAll_spec h.2 p q i j (by omega) hi hj

structure Look (P : Program) (ops : Array Oper) : Prop where
  mem : ∀ i, i < ops.size → i ∈ sched P ops
  lt : ∀ i ∈ sched P ops, i < ops.size
  back : ∀ (j : Nat) (o : Oper), ops[j]? = some o → ∀ e ∈ o.after, Region.binds .any e = true → e.on < j
  ne : ∀ (p q i j : Nat), p < q → (sched P ops)[p]? = some i → (sched P ops)[q]? = some j → i ≠ j
  pair : ∀ (p q i j : Nat), p < q → (sched P ops)[p]? = some i → (sched P ops)[q]? = some j → bit (Region.before ops) j i = true ∨
    (conflict ops i j = false ∧ ¬ (kindAt P ops j = .eff ∧ (kindAt P ops i = .eff ∨ kindAt P ops i = .new)))

theorem Look.of {P : Program} {ops : Array Oper} (h : drawOk P ops = true) : Look P ops := by
  simp only [drawOk, Bool.and_eq_true, List.all_eq_true] at h
  obtain ⟨⟨⟨h1, h2⟩, h3⟩, h4⟩ := h
  refine ⟨fun i hi => by simpa using h1 i (by simpa using hi), fun i hi => by simpa using h2 i hi, fun j o ho e he hb => ?_, fun p q i j hpq hi hj => ?_, fun p q i j hpq hi hj => ?_⟩
  · have hj : j < ops.size := (Array.getElem?_eq_some_iff.1 ho).1
    have := h3 j (by simpa using hj)
    simp only [ho, List.all_eq_true] at this
    have := this e (by simpa using he)
    rw [hb] at this
    simpa using this
  · have := pairsAll_spec h4 p q i j hpq hi hj
    simp only [Bool.and_eq_true] at this
    intro h0; subst h0; simp at this
  · have := pairsAll_spec h4 p q i j hpq hi hj
    simp only [Bool.and_eq_true, Bool.or_eq_true, Bool.not_eq_true', Bool.or_eq_false_iff, Bool.and_eq_false_iff] at this
    rcases this.2 with h5 | ⟨h5, h6⟩
    · exact .inl h5
    · refine .inr ⟨h5, ?_⟩
      rintro ⟨h7, h8⟩
      rcases h6 with h6 | ⟨h6, h9⟩
      · rw [h7] at h6; simp at h6
      · rcases h8 with h8 | h8
        · rw [h8] at h6; simp at h6
        · rw [h8] at h9; simp at h9

/-! ### the trace -/
theorem trc_states {P : Program} {call : CallF} {ops : Array Oper} : ∀ {l : List Nat} {s s' : Trc}, trc P call ops l s = some s' →
    ∃ S : Nat → Trc, S 0 = s ∧ S l.length = s' ∧ ∀ p j, l[p]? = some j → trcStep P call ops (S p) j = some (S (p + 1))
  | [], s, s', h => by simp [trc] at h; subst h; exact ⟨fun _ => s, rfl, rfl, fun p j h => by simp at h⟩
  | j :: l, s, s', h => by
    simp only [trc] at h
    split at h
    · rename_i s1 h1
      obtain ⟨S, g1, g2, g3⟩ := trc_states h
      refine ⟨fun p => match p with | 0 => s | p + 1 => S p, rfl, g2, fun p i hi => ?_⟩
      cases p with
      | zero => simp at hi; subst hi; simp only [g1]; exact h1
      | succ p => simp at hi; exact g3 p i hi
    · cases h

end Go.Ev
