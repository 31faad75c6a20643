/- More fuel gives the same answer; what code comes to, whatever the fuel (Wp), and its rules. -/
import Derived.Test.YtncmgiddcefpcaaDoorEvU
namespace Go.Ev
open Go
set_option linter.unusedSimpArgs false
set_option linter.unusedVariables false

def CallF.le (c d : CallF) : Prop := ∀ g a h r, c g a h = some r → d g a h = some r

theorem evEffCall_mono {P : Program} {c d : CallF} (hcd : c.le d) {fr : Fr} {k : Call} {h : Hp} {r : Value × Hp} (e : evEffCall P c fr k h = some r) : evEffCall P d fr k h = some r := by
  unfold evEffCall at e ⊢
  split at e
  · exact e
  · exact e
  · exact e
  · rename_i f _
    simp only [Option.bind_eq_some_iff] at e ⊢
    obtain ⟨v, h1, h2⟩ := e
    refine ⟨v, h1, ?_⟩
    split at h2
    · rw [Option.bind_eq_some_iff] at h2 ⊢
      obtain ⟨vs, h3, h4⟩ := h2
      exact ⟨vs, h3, hcd _ _ _ _ h4⟩
    · cases h2
  · cases e

theorem evEff_mono {P : Program} {c d : CallF} (hcd : c.le d) {fr : Fr} {o : Oper} {h : Hp} {r : Value × Hp} (e : evEff P c fr o h = some r) : evEff P d fr o h = some r := by
  unfold evEff at e ⊢
  split at e
  · exact e
  · exact e
  · exact e
  · exact evEffCall_mono hcd e
  · cases e

theorem evOp_mono {P : Program} {c d : CallF} (hcd : c.le d) {fr : Fr} {o : Oper} {h : Hp} {r : Value × Hp} (e : evOp P c fr o h = some r) : evOp P d fr o h = some r := by
  unfold evOp at e ⊢
  split at e
  · exact e
  · exact e
  · exact e
  · exact evEff_mono hcd e

theorem evOps_mono {P : Program} {c d : CallF} (hcd : c.le d) {ops : Array Oper} : ∀ (l : List Oper) {fr : Fr} {h : Hp} {r : Fr × Hp}, evOps P c ops l fr h = some r → evOps P d ops l fr h = some r
  | [], _, _, _, e => e
  | o :: rest, fr, h, r, e => by
    unfold evOps at e ⊢
    split at e
    · split at e
      · rename_i v h' h1
        rw [evOp_mono hcd h1]
        exact evOps_mono hcd rest e
      · cases e
    · exact evOps_mono hcd rest e
    · cases e

theorem trcStep_mono {P : Program} {c d : CallF} (hcd : c.le d) {ops : Array Oper} {s s' : Trc} {j : Nat} (e : trcStep P c ops s j = some s') : trcStep P d ops s j = some s' := by
  unfold trcStep at e ⊢
  split at e
  · cases e
  · split at e
    · cases e
    · exact e
    · split at e
      · cases e
      · rename_i v h' h1
        rw [evOp_mono hcd h1]
        exact e

theorem trc_mono {P : Program} {c d : CallF} (hcd : c.le d) {ops : Array Oper} : ∀ (l : List Nat) {s s' : Trc}, trc P c ops l s = some s' → trc P d ops l s = some s'
  | [], _, _, e => e
  | j :: l, s, s', e => by
    unfold trc at e ⊢
    split at e
    · rename_i s1 h1
      rw [trcStep_mono hcd h1]
      exact trc_mono hcd l e
    · cases e

theorem evDraw_mono {P : Program} {c d : CallF} (hcd : c.le d) {n m : Nat} {ops : Array Oper} {fr : Fr} {h : Hp} {r : Fr × Hp} (e : evDraw P c n ops fr h = some r) : evDraw P d m ops fr h = some r := by
  unfold evDraw at e ⊢
  split at e
  · rename_i s h1
    rw [trc_mono hcd _ h1]
    exact e
  · cases e

theorem iter_mono {b b' : Fr → Hp → Res} (hb : ∀ fr h r, b fr h = some r → b' fr h = some r) : ∀ (n : Nat) {m : Nat} {fr : Fr} {h : Hp} {r : Ex × Fr × Hp}, n ≤ m → iter b n fr h = some r → iter b' m fr h = some r
  | 0, _, _, _, _, _, e => by cases e
  | n + 1, 0, _, _, _, hm, _ => by omega
  | n + 1, m + 1, fr, h, r, hm, e => by
    unfold iter at e ⊢
    split at e
    · rename_i fr1 h1 e1
      rw [hb _ _ _ e1]
      exact iter_mono hb n (by omega) e
    · rename_i hne
      rw [hb _ _ _ e]
      split
      · rename_i h2
        cases h2
        exact absurd e (hne _ _)
      · rfl

theorem evCode_mono {P : Program} {c d : CallF} (hcd : c.le d) {n m : Nat} (hn : n ≤ m) : ∀ (k : Code) {fr : Fr} {h : Hp} {r : Ex × Fr × Hp}, evCode P c (evDraw P c) n k fr h = some r → evCode P d (evDraw P d) m k fr h = some r
  | .skip, _, _, _, e => e
  | .region id ops draw, fr, h, r, e => by
    unfold evCode at e ⊢
    cases draw with
    | true =>
      simp only [cond_true] at e ⊢
      split at e
      · rename_i h1; rw [evDraw_mono hcd h1]; exact e
      · cases e
    | false =>
      simp only [cond_false] at e ⊢
      split at e
      · rename_i h1; rw [evOps_mono hcd _ h1]; exact e
      · cases e
  | .seq a b, fr, h, r, e => by
    unfold evCode at e ⊢
    split at e
    · rename_i h1; rw [evCode_mono hcd hn a h1]; exact evCode_mono hcd hn b e
    · rename_i hne
      rw [evCode_mono hcd hn a e]
      split
      · rename_i h2
        cases h2
        exact absurd e (hne _ _)
      · rfl
  | .cond x a b, fr, h, r, e => by
    unfold evCode at e ⊢
    split at e
    · exact evCode_mono hcd hn a e
    · exact evCode_mono hcd hn b e
    · cases e
  | .block id a, fr, h, r, e => by
    unfold evCode at e ⊢
    split at e
    · rename_i h1; rw [evCode_mono hcd hn a h1]; exact e
    · rename_i hne
      rw [evCode_mono hcd hn a e]
      split
      · rename_i h2
        cases h2
        exact absurd e (hne _ _ _)
      · rfl
  | .loop a, fr, h, r, e => by
    unfold evCode at e ⊢
    exact iter_mono (fun fr h r => evCode_mono hcd hn a) n hn e
  | .exit id, _, _, _, e => e
  | .ret, _, _, _, e => e
  | .rangeFunc .., _, _, _, e => by unfold evCode at e; cases e
  | .scope _, _, _, _, e => by unfold evCode at e; cases e
  | .label _, _, _, _, e => by unfold evCode at e; cases e
  | .goto _, _, _, _, e => by unfold evCode at e; cases e

theorem evCall_mono (C : Ctx) : ∀ {n m : Nat}, n ≤ m → CallF.le (evCall C n) (evCall C m)
  | 0, _, _ => fun _ _ _ _ e => by cases e
  | n + 1, 0, hm => by omega
  | n + 1, m + 1, hm => fun g a h r e => by
    have ih := evCall_mono C (show n ≤ m by omega)
    unfold evCall at e ⊢
    split at e
    · exact e
    · cases hmask : C.mask.testBit g with
      | false => rw [hmask] at e; simp at e
      | true =>
        rw [hmask] at e
        simp only [Bool.not_true, cond_false] at e ⊢
        split at e
        · split at e
          · rename_i fn _ _ c _
            cases hc : evCode C.P (evCall C n) (evDraw C.P (evCall C n)) n c (Tr.ofList a 0 .e) h with
            | none => rw [hc] at e; cases e
            | some q => rw [hc] at e; rw [evCode_mono ih (by omega) c hc]; exact e
          · cases e
        · cases e

/-! ### what a call comes to, whatever the fuel -/
/-- The call returns that, and leaves that heap. -/
def Ret (C : Ctx) (f : FuncId) (args : List Value) (h : Hp) (v : Value) (h' : Hp) : Prop := ∃ n, evCall C n f args h = some (v, h')
/-- The code comes to a state of which Q holds. -/
def Wp (C : Ctx) (k : Code) (fr : Fr) (h : Hp) (Q : Ex → Fr → Hp → Prop) : Prop := ∃ n e fr' h', evCode C.P (evCall C n) (evDraw C.P (evCall C n)) n k fr h = some (e, fr', h') ∧ Q e fr' h'
/-- The operations, in their order. -/
def WpO (C : Ctx) (ops : Array Oper) (l : List Oper) (fr : Fr) (h : Hp) (Q : Fr → Hp → Prop) : Prop := ∃ n fr' h', evOps C.P (evCall C n) ops l fr h = some (fr', h') ∧ Q fr' h'
/-- One operation. -/
def WpP (C : Ctx) (o : Oper) (fr : Fr) (h : Hp) (Q : Value → Hp → Prop) : Prop := ∃ n v h', evOp C.P (evCall C n) fr o h = some (v, h') ∧ Q v h'

variable {C : Ctx}
theorem Ret.det {f : FuncId} {args : List Value} {h : Hp} {v v2 : Value} {h1 h2 : Hp} (a : Ret C f args h v h1) (b : Ret C f args h v2 h2) : v = v2 ∧ h1 = h2 := by
  obtain ⟨n, a⟩ := a
  obtain ⟨m, b⟩ := b
  have a' := evCall_mono C (Nat.le_max_left n m) _ _ _ _ a
  have b' := evCall_mono C (Nat.le_max_right n m) _ _ _ _ b
  rw [a'] at b'
  simpa using b'

theorem Wp.mono {k : Code} {fr : Fr} {h : Hp} {Q R : Ex → Fr → Hp → Prop} (a : Wp C k fr h Q) (hq : ∀ e fr h, Q e fr h → R e fr h) : Wp C k fr h R := by
  obtain ⟨n, e, fr', h', h1, h2⟩ := a
  exact ⟨n, e, fr', h', h1, hq _ _ _ h2⟩

theorem Wp.skip {fr : Fr} {h : Hp} {Q : Ex → Fr → Hp → Prop} (q : Q .norm fr h) : Wp C .skip fr h Q := ⟨0, _, _, _, rfl, q⟩
theorem Wp.ret {fr : Fr} {h : Hp} {Q : Ex → Fr → Hp → Prop} (q : Q .ret fr h) : Wp C .ret fr h Q := ⟨0, _, _, _, rfl, q⟩
theorem Wp.exit {i : Nat} {fr : Fr} {h : Hp} {Q : Ex → Fr → Hp → Prop} (q : Q (.exit i) fr h) : Wp C (.exit i) fr h Q := ⟨0, _, _, _, rfl, q⟩

theorem Wp.seq {a b : Code} {fr : Fr} {h : Hp} {Q : Ex → Fr → Hp → Prop} (w : Wp C a fr h fun e fr h => match e with
    | .norm => Wp C b fr h Q
    | e => Q e fr h) : Wp C (.seq a b) fr h Q := by
  obtain ⟨n, e, fr', h', h1, h2⟩ := w
  cases e with
  | norm =>
    obtain ⟨m, e2, fr2, h2', h3, h4⟩ := h2
    refine ⟨max n m, e2, fr2, h2', ?_, h4⟩
    unfold evCode
    rw [evCode_mono (evCall_mono C (Nat.le_max_left n m)) (Nat.le_max_left n m) a h1]
    exact evCode_mono (evCall_mono C (Nat.le_max_right n m)) (Nat.le_max_right n m) b h3
  | exit i => exact ⟨n, _, _, _, by unfold evCode; rw [h1], h2⟩
  | ret => exact ⟨n, _, _, _, by unfold evCode; rw [h1], h2⟩

theorem Wp.cond {x : Operand} {a b : Code} {fr : Fr} {h : Hp} {Q : Ex → Fr → Hp → Prop} {c : Bool} (hc : ev1 fr x = some (.bool c)) (w : bif c then Wp C a fr h Q else Wp C b fr h Q) : Wp C (.cond x a b) fr h Q := by
  cases c with
  | true =>
    obtain ⟨n, e, fr', h', h1, h2⟩ := w
    exact ⟨n, _, _, _, by unfold evCode; rw [hc]; exact h1, h2⟩
  | false =>
    obtain ⟨n, e, fr', h', h1, h2⟩ := w
    exact ⟨n, _, _, _, by unfold evCode; rw [hc]; exact h1, h2⟩

theorem Wp.block {i : Nat} {a : Code} {fr : Fr} {h : Hp} {Q : Ex → Fr → Hp → Prop} (w : Wp C a fr h fun e fr h => match e with
    | .exit j => bif Nat.beq j i then Q .norm fr h else Q (.exit j) fr h
    | e => Q e fr h) : Wp C (.block i a) fr h Q := by
  obtain ⟨n, e, fr', h', h1, h2⟩ := w
  cases e with
  | norm => exact ⟨n, _, _, _, by unfold evCode; rw [h1], h2⟩
  | ret => exact ⟨n, _, _, _, by unfold evCode; rw [h1], h2⟩
  | exit j =>
    cases hj : Nat.beq j i with
    | true => simp only [hj, cond_true] at h2; exact ⟨n, _, _, _, by unfold evCode; rw [h1]; simp only [hj, cond_true], h2⟩
    | false => simp only [hj, cond_false] at h2; exact ⟨n, _, _, _, by unfold evCode; rw [h1]; simp only [hj, cond_false], h2⟩

/-- A loop, by a measure. -/
theorem Wp.loop {a : Code} {Q : Ex → Fr → Hp → Prop} (I : Nat → Fr → Hp → Prop)
    (step : ∀ k fr h, I k fr h → Wp C a fr h fun e fr h => match e with
      | .norm => ∃ j, j < k ∧ I j fr h
      | e => Q e fr h) : ∀ (k : Nat) {fr : Fr} {h : Hp}, I k fr h → Wp C (.loop a) fr h Q := by
  intro k
  induction k using Nat.strongRecOn with
  | _ k ih =>
    intro fr h i
    obtain ⟨n, e, fr', h', h1, h2⟩ := step k fr h i
    have key : ∀ q e, (∀ fr h, e ≠ (Ex.norm, fr, h)) → evCode C.P (evCall C n) (evDraw C.P (evCall C n)) n a fr h = some e → n ≤ q → evCode C.P (evCall C (q + 1)) (evDraw C.P (evCall C (q + 1))) (q + 1) (.loop a) fr h = some e := by
      intro q e hne h1 hq
      unfold evCode iter
      rw [evCode_mono (evCall_mono C (show n ≤ q + 1 by omega)) (show n ≤ q + 1 by omega) a h1]
      split
      · rename_i h2; cases h2; exact absurd rfl (hne _ _)
      · rfl
    cases e with
    | norm =>
      obtain ⟨j, hj, i2⟩ := h2
      obtain ⟨m, e2, fr2, h2', h3, h4⟩ := ih j hj i2
      refine ⟨max n m + 1, e2, fr2, h2', ?_, h4⟩
      have h1' := evCode_mono (evCall_mono C (show n ≤ max n m + 1 by omega)) (show n ≤ max n m + 1 by omega) a h1
      unfold evCode at h3 ⊢
      unfold iter
      rw [h1']
      exact iter_mono (fun fr h r => evCode_mono (evCall_mono C (show m ≤ max n m + 1 by omega)) (show m ≤ max n m + 1 by omega) a) m (by omega) h3
    | exit j => exact ⟨n + 1, _, _, _, key n _ (fun _ _ h => by cases h) h1 (Nat.le_refl _), h2⟩
    | ret => exact ⟨n + 1, _, _, _, key n _ (fun _ _ h => by cases h) h1 (Nat.le_refl _), h2⟩

theorem Wp.region {i : Nat} {ops : Array Oper} {fr : Fr} {h : Hp} {Q : Ex → Fr → Hp → Prop} (w : WpO C ops ops.toList fr h fun fr h => Q .norm fr h) : Wp C (.region i ops false) fr h Q := by
  obtain ⟨n, fr', h', h1, h2⟩ := w
  exact ⟨n, _, _, _, by unfold evCode; simp only [cond_false, h1], h2⟩

theorem WpO.nil {ops : Array Oper} {fr : Fr} {h : Hp} {Q : Fr → Hp → Prop} (q : Q fr h) : WpO C ops [] fr h Q := ⟨0, _, _, rfl, q⟩

theorem WpO.cons {ops : Array Oper} {o : Oper} {l : List Oper} {fr : Fr} {h : Hp} {Q : Fr → Hp → Prop} {b : Bool} (hb : evWanted ops fr o = some b)
    (w : bif b then WpP C o fr h (fun v h => WpO C ops l (put fr o.dst v) h Q) else WpO C ops l (put fr o.dst undef) h Q) : WpO C ops (o :: l) fr h Q := by
  cases b with
  | true =>
    obtain ⟨n, v, h', h1, m, fr2, h2, h3, h4⟩ := w
    refine ⟨max n m, fr2, h2, ?_, h4⟩
    unfold evOps
    rw [hb]
    simp only
    rw [evOp_mono (evCall_mono C (Nat.le_max_left n m)) h1]
    exact evOps_mono (evCall_mono C (Nat.le_max_right n m)) l h3
  | false =>
    obtain ⟨n, fr2, h2, h3, h4⟩ := w
    exact ⟨n, fr2, h2, by unfold evOps; rw [hb]; exact h3, h4⟩

/-- An operation that is no call. -/
theorem WpP.op {o : Oper} {fr : Fr} {h : Hp} {Q : Value → Hp → Prop} {v : Value} {h' : Hp} (e : ∀ call, evOp C.P call fr o h = some (v, h')) (q : Q v h') : WpP C o fr h Q := ⟨0, _, _, e _, q⟩

/-- A call of a function that is named. -/
theorem WpP.call {o : Oper} {k : Call} {g : FuncId} {fr : Fr} {h h' : Hp} {Q : Value → Hp → Prop} {vs : List Value} {v : Value} (ho : o.op = .call k) (hk : k.callee = .value (.func g)) (ha : evs fr k.args.toList = some vs)
    (r : Ret C g vs h v h') (q : Q v h') : WpP C o fr h Q := by
  obtain ⟨n, r⟩ := r
  refine ⟨n, v, h', ?_, q⟩
  have hkd : kindOf C.P o = .eff := by unfold kindOf; rw [ho]; simp only [hk]
  unfold evOp
  rw [hkd]
  simp only [evEff, ho, evEffCall, hk, ev1, Option.bind_some, ha, List.append_nil, List.nil_append]
  exact r

/-- A function's contract, from its body's. -/
theorem Ret.mk {f : FuncId} {fn : Func} {c : Code} {args : List Value} {h h' : Hp} {v : Value} (hS : C.S f = none) (hm : C.mask.testBit f = true) (hf : C.P.funcs[f]? = some fn) (hc : fn.body = some c)
    (w : Wp C c (Tr.ofList args 0 .e) h fun e fr h1 => e = .ret ∧ h1 = h' ∧ (evResults C.P fr h1 fn.results.toList).map tupled = some v) : Ret C f args h v h' := by
  obtain ⟨n, e, fr, h1, h2, rfl, rfl, h3⟩ := w
  obtain ⟨vs, h4, h5⟩ := Option.map_eq_some_iff.1 h3
  refine ⟨n + 1, ?_⟩
  unfold evCall
  rw [hS]
  simp only [hm, Bool.not_true, cond_false, hf, hc, h2, h4, Option.map_some, h5]

theorem Ret.sum {f : FuncId} {s : List Value → Hp → Option (Value × Hp)} {args : List Value} {h h' : Hp} {v : Value} (hS : C.S f = some s) (e : s args h = some (v, h')) : Ret C f args h v h' :=
  ⟨1, by unfold evCall; rw [hS]; exact e⟩
end Go.Ev
