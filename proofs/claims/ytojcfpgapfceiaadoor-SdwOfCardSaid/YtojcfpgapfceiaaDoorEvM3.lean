/- Texts joined: what the claim needs of them. No condition. -/
import Derived.Test.YtojcfpgapfceiaaDoorEvM2
import Derived.OpenShut
namespace Go.Ev
open Go
set_option linter.unusedSimpArgs false
set_option linter.unusedVariables false
def CallF.le (c d : CallF) : Prop := ∀ g a h r, c g a h = some r → d g a h = some r
theorem evEffCall_mono {P : Program} {c d : CallF} (hcd : c.le d) {fr : Fr} {k : Call} {h : Hp} {r : Value × Hp} (e : evEffCall P c fr k h = some r) : evEffCall P d fr k h = some r := by
  unfold evEffCall at e ⊢
  split at e
  · exact e
  · exact e
  · exact e
  · rename_i f _
    simp only [Option.bind_eq_some_iff] at e ⊢
    obtain ⟨v, h1, h2⟩ := e
    refine ⟨v, h1, ?_⟩
    split at h2
    · rw [Option.bind_eq_some_iff] at h2 ⊢
      obtain ⟨vs, h3, h4⟩ := h2
      exact ⟨vs, h3, hcd _ _ _ _ h4⟩
    · cases h2
  · cases e
theorem evEff_mono {P : Program} {c d : CallF} (hcd : c.le d) {fr : Fr} {o : Oper} {h : Hp} {r : Value × Hp} (e : evEff P c fr o h = some r) : evEff P d fr o h = some r := by
  unfold evEff at e ⊢
  split at e
  · exact e
  · exact e
  · exact e
  · exact evEffCall_mono hcd e
  · cases e
theorem evOp_mono {P : Program} {c d : CallF} (hcd : c.le d) {fr : Fr} {o : Oper} {h : Hp} {r : Value × Hp} (e : evOp P c fr o h = some r) : evOp P d fr o h = some r := by
  unfold evOp at e ⊢
  split at e
  · exact e
  · exact e
  · exact e
  · exact evEff_mono hcd e
theorem evOps_mono {P : Program} {c d : CallF} (hcd : c.le d) {ops : Array Oper} : ∀ (l : List Oper) {fr : Fr} {h : Hp} {r : Fr × Hp}, evOps P c ops l fr h = some r → evOps P d ops l fr h = some r
  | [], _, _, _, e => e
  | o :: rest, fr, h, r, e => by
    unfold evOps at e ⊢
    split at e
    · split at e
      · rename_i v h' h1
        rw [evOp_mono hcd h1]
        exact evOps_mono hcd rest e
      · cases e
    · exact evOps_mono hcd rest e
    · cases e
theorem trcStep_mono {P : Program} {c d : CallF} (hcd : c.le d) {ops : Array Oper} {s s' : Trc} {j : Nat} (e : trcStep P c ops s j = some s') : trcStep P d ops s j = some s' := by
  unfold trcStep at e ⊢
  split at e
  · cases e
  · split at e
    · cases e
    · exact e
    · split at e
      · cases e
      · rename_i v h' h1
        rw [evOp_mono hcd h1]
        exact e
theorem trc_mono {P : Program} {c d : CallF} (hcd : c.le d) {ops : Array Oper} : ∀ (l : List Nat) {s s' : Trc}, trc P c ops l s = some s' → trc P d ops l s = some s'
  | [], _, _, e => e
  | j :: l, s, s', e => by
    unfold trc at e ⊢
    split at e
    · rename_i s1 h1
      rw [trcStep_mono hcd h1]
      exact trc_mono hcd l e
    · cases e
theorem evDraw_mono {P : Program} {c d : CallF} (hcd : c.le d) {n m : Nat} {ops : Array Oper} {fr : Fr} {h : Hp} {r : Fr × Hp} (e : evDraw P c n ops fr h = some r) : evDraw P d m ops fr h = some r := by
  unfold evDraw at e ⊢
  split at e
  · rename_i s h1
    rw [trc_mono hcd _ h1]
    exact e
  · cases e
theorem iter_mono {b b' : Fr → Hp → Res} (hb : ∀ fr h r, b fr h = some r → b' fr h = some r) : ∀ (n : Nat) {m : Nat} {fr : Fr} {h : Hp} {r : Ex × Fr × Hp}, n ≤ m → iter b n fr h = some r → iter b' m fr h = some r
  | 0, _, _, _, _, _, e => by cases e
  | n + 1, 0, _, _, _, hm, _ => by omega
  | n + 1, m + 1, fr, h, r, hm, e => by
    unfold iter at e ⊢
    split at e
    · rename_i fr1 h1 e1
      rw [hb _ _ _ e1]
      exact iter_mono hb n (by omega) e
    · rename_i hne
      rw [hb _ _ _ e]
      split
      · rename_i h2
        cases h2
        exact absurd e (hne _ _)
      · rfl
theorem evCode_mono {P : Program} {c d : CallF} (hcd : c.le d) {n m : Nat} (hn : n ≤ m) : ∀ (k : Code) {fr : Fr} {h : Hp} {r : Ex × Fr × Hp}, evCode P c (evDraw P c) n k fr h = some r → evCode P d (evDraw P d) m k fr h = some r
  | .skip, _, _, _, e => e
  | .region id ops draw, fr, h, r, e => by
    unfold evCode at e ⊢
    cases draw with
    | true =>
      simp only [cond_true] at e ⊢
      split at e
      · rename_i h1; rw [evDraw_mono hcd h1]; exact e
      · cases e
    | false =>
      simp only [cond_false] at e ⊢
      split at e
      · rename_i h1; rw [evOps_mono hcd _ h1]; exact e
      · cases e
  | .seq a b, fr, h, r, e => by
    unfold evCode at e ⊢
    split at e
    · rename_i h1; rw [evCode_mono hcd hn a h1]; exact evCode_mono hcd hn b e
    · rename_i hne
      rw [evCode_mono hcd hn a e]
      split
      · rename_i h2
        cases h2
        exact absurd e (hne _ _)
      · rfl
  | .cond x a b, fr, h, r, e => by
    unfold evCode at e ⊢
    split at e
    · exact evCode_mono hcd hn a e
    · exact evCode_mono hcd hn b e
    · cases e
  | .block id a, fr, h, r, e => by
    unfold evCode at e ⊢
    split at e
    · rename_i h1; rw [evCode_mono hcd hn a h1]; exact e
    · rename_i hne
      rw [evCode_mono hcd hn a e]
      split
      · rename_i h2
        cases h2
        exact absurd e (hne _ _ _)
      · rfl
  | .loop a, fr, h, r, e => by
    unfold evCode at e ⊢
    exact iter_mono (fun fr h r => evCode_mono hcd hn a) n hn e
  | .exit id, _, _, _, e => e
  | .ret, _, _, _, e => e
  | .rangeFunc .., _, _, _, e => by unfold evCode at e; cases e
  | .scope _, _, _, _, e => by unfold evCode at e; cases e
  | .label _, _, _, _, e => by unfold evCode at e; cases e
  | .goto _, _, _, _, e => by unfold evCode at e; cases e
theorem evCall_mono (C : Ctx) : ∀ {n m : Nat}, n ≤ m → CallF.le (evCall C n) (evCall C m)
  | 0, _, _ => fun _ _ _ _ e => by cases e
  | n + 1, 0, hm => by omega
  | n + 1, m + 1, hm => fun g a h r e => by
    have ih := evCall_mono C (show n ≤ m by omega)
    unfold evCall at e ⊢
    split at e
    · exact e
    · cases hmask : C.mask.testBit g with
      | false => rw [hmask] at e; simp at e
      | true =>
        rw [hmask] at e
        simp only [Bool.not_true, cond_false] at e ⊢
        split at e
        · split at e
          · rename_i fn _ _ c _
            cases hc : evCode C.P (evCall C n) (evDraw C.P (evCall C n)) n c (Tr.ofList a 0 .e) h with
            | none => rw [hc] at e; cases e
            | some q => rw [hc] at e; rw [evCode_mono ih (by omega) c hc]; exact e
          · cases e
        · cases e
def Ret (C : Ctx) (f : FuncId) (args : List Value) (h : Hp) (v : Value) (h' : Hp) : Prop := ∃ n, evCall C n f args h = some (v, h')
def Wp (C : Ctx) (k : Code) (fr : Fr) (h : Hp) (Q : Ex → Fr → Hp → Prop) : Prop := ∃ n e fr' h', evCode C.P (evCall C n) (evDraw C.P (evCall C n)) n k fr h = some (e, fr', h') ∧ Q e fr' h'
def WpO (C : Ctx) (ops : Array Oper) (l : List Oper) (fr : Fr) (h : Hp) (Q : Fr → Hp → Prop) : Prop := ∃ n fr' h', evOps C.P (evCall C n) ops l fr h = some (fr', h') ∧ Q fr' h'
def WpP (C : Ctx) (o : Oper) (fr : Fr) (h : Hp) (Q : Value → Hp → Prop) : Prop := ∃ n v h', evOp C.P (evCall C n) fr o h = some (v, h') ∧ Q v h'
variable {C : Ctx}
theorem Ret.det {f : FuncId} {args : List Value} {h : Hp} {v v2 : Value} {h1 h2 : Hp} (a : Ret C f args h v h1) (b : Ret C f args h v2 h2) : v = v2 ∧ h1 = h2 := by
  obtain ⟨n, a⟩ := a
  obtain ⟨m, b⟩ := b
  have a' := evCall_mono C (Nat.le_max_left n m) _ _ _ _ a
  have b' := evCall_mono C (Nat.le_max_right n m) _ _ _ _ b
  rw [a'] at b'
  simpa using b'
theorem Wp.mono {k : Code} {fr : Fr} {h : Hp} {Q R : Ex → Fr → Hp → Prop} (a : Wp C k fr h Q) (hq : ∀ e fr h, Q e fr h → R e fr h) : Wp C k fr h R := by
  obtain ⟨n, e, fr', h', h1, h2⟩ := a
  exact ⟨n, e, fr', h', h1, hq _ _ _ h2⟩
theorem Wp.skip {fr : Fr} {h : Hp} {Q : Ex → Fr → Hp → Prop} (q : Q .norm fr h) : Wp C .skip fr h Q := ⟨0, _, _, _, rfl, q⟩
theorem Wp.ret {fr : Fr} {h : Hp} {Q : Ex → Fr → Hp → Prop} (q : Q .ret fr h) : Wp C .ret fr h Q := ⟨0, _, _, _, rfl, q⟩
theorem Wp.exit {i : Nat} {fr : Fr} {h : Hp} {Q : Ex → Fr → Hp → Prop} (q : Q (.exit i) fr h) : Wp C (.exit i) fr h Q := ⟨0, _, _, _, rfl, q⟩
theorem Wp.seq {a b : Code} {fr : Fr} {h : Hp} {Q : Ex → Fr → Hp → Prop} (w : Wp C a fr h fun e fr h => match e with
    | .norm => Wp C b fr h Q
    | e => Q e fr h) : Wp C (.seq a b) fr h Q := by
  obtain ⟨n, e, fr', h', h1, h2⟩ := w
  cases e with
  | norm =>
    obtain ⟨m, e2, fr2, h2', h3, h4⟩ := h2
    refine ⟨max n m, e2, fr2, h2', ?_, h4⟩
    unfold evCode
    rw [evCode_mono (evCall_mono C (Nat.le_max_left n m)) (Nat.le_max_left n m) a h1]
    exact evCode_mono (evCall_mono C (Nat.le_max_right n m)) (Nat.le_max_right n m) b h3
  | exit i => exact ⟨n, _, _, _, by unfold evCode; rw [h1], h2⟩
  | ret => exact ⟨n, _, _, _, by unfold evCode; rw [h1], h2⟩
theorem Wp.cond {x : Operand} {a b : Code} {fr : Fr} {h : Hp} {Q : Ex → Fr → Hp → Prop} {c : Bool} (hc : ev1 fr x = some (.bool c)) (w : bif c then Wp C a fr h Q else Wp C b fr h Q) : Wp C (.cond x a b) fr h Q := by
  cases c with
  | true =>
    obtain ⟨n, e, fr', h', h1, h2⟩ := w
    exact ⟨n, _, _, _, by unfold evCode; rw [hc]; exact h1, h2⟩
  | false =>
    obtain ⟨n, e, fr', h', h1, h2⟩ := w
    exact ⟨n, _, _, _, by unfold evCode; rw [hc]; exact h1, h2⟩
theorem Wp.block {i : Nat} {a : Code} {fr : Fr} {h : Hp} {Q : Ex → Fr → Hp → Prop} (w : Wp C a fr h fun e fr h => match e with
    | .exit j => bif Nat.beq j i then Q .norm fr h else Q (.exit j) fr h
    | e => Q e fr h) : Wp C (.block i a) fr h Q := by
  obtain ⟨n, e, fr', h', h1, h2⟩ := w
  cases e with
  | norm => exact ⟨n, _, _, _, by unfold evCode; rw [h1], h2⟩
  | ret => exact ⟨n, _, _, _, by unfold evCode; rw [h1], h2⟩
  | exit j =>
    cases hj : Nat.beq j i with
    | true => simp only [hj, cond_true] at h2; exact ⟨n, _, _, _, by unfold evCode; rw [h1]; simp only [hj, cond_true], h2⟩
    | false => simp only [hj, cond_false] at h2; exact ⟨n, _, _, _, by unfold evCode; rw [h1]; simp only [hj, cond_false], h2⟩
theorem Wp.loop {a : Code} {Q : Ex → Fr → Hp → Prop} (I : Nat → Fr → Hp → Prop)
    (step : ∀ k fr h, I k fr h → Wp C a fr h fun e fr h => match e with
      | .norm => ∃ j, j < k ∧ I j fr h
      | e => Q e fr h) : ∀ (k : Nat) {fr : Fr} {h : Hp}, I k fr h → Wp C (.loop a) fr h Q := by
  intro k
  induction k using Nat.strongRecOn with
  | _ k ih =>
    intro fr h i
    obtain ⟨n, e, fr', h', h1, h2⟩ := step k fr h i
    have key : ∀ q e, (∀ fr h, e ≠ (Ex.norm, fr, h)) → evCode C.P (evCall C n) (evDraw C.P (evCall C n)) n a fr h = some e → n ≤ q → evCode C.P (evCall C (q + 1)) (evDraw C.P (evCall C (q + 1))) (q + 1) (.loop a) fr h = some e := by
      intro q e hne h1 hq
      unfold evCode iter
      rw [evCode_mono (evCall_mono C (show n ≤ q + 1 by omega)) (show n ≤ q + 1 by omega) a h1]
      split
      · rename_i h2; cases h2; exact absurd rfl (hne _ _)
      · rfl
    cases e with
    | norm =>
      obtain ⟨j, hj, i2⟩ := h2
      obtain ⟨m, e2, fr2, h2', h3, h4⟩ := ih j hj i2
      refine ⟨max n m + 1, e2, fr2, h2', ?_, h4⟩
      have h1' := evCode_mono (evCall_mono C (show n ≤ max n m + 1 by omega)) (show n ≤ max n m + 1 by omega) a h1
      unfold evCode at h3 ⊢
      unfold iter
      rw [h1']
      exact iter_mono (fun fr h r => evCode_mono (evCall_mono C (show m ≤ max n m + 1 by omega)) (show m ≤ max n m + 1 by omega) a) m (by omega) h3
    | exit j => exact ⟨n + 1, _, _, _, key n _ (fun _ _ h => by cases h) h1 (Nat.le_refl _), h2⟩
    | ret => exact ⟨n + 1, _, _, _, key n _ (fun _ _ h => by cases h) h1 (Nat.le_refl _), h2⟩
theorem Wp.region {i : Nat} {ops : Array Oper} {fr : Fr} {h : Hp} {Q : Ex → Fr → Hp → Prop} (w : WpO C ops ops.toList fr h fun fr h => Q .norm fr h) : Wp C (.region i ops false) fr h Q := by
  obtain ⟨n, fr', h', h1, h2⟩ := w
  exact ⟨n, _, _, _, by unfold evCode; simp only [cond_false, h1], h2⟩
theorem WpO.nil {ops : Array Oper} {fr : Fr} {h : Hp} {Q : Fr → Hp → Prop} (q : Q fr h) : WpO C ops [] fr h Q := ⟨0, _, _, rfl, q⟩
theorem WpO.cons {ops : Array Oper} {o : Oper} {l : List Oper} {fr : Fr} {h : Hp} {Q : Fr → Hp → Prop} {b : Bool} (hb : evWanted ops fr o = some b)
    (w : bif b then WpP C o fr h (fun v h => WpO C ops l (put fr o.dst v) h Q) else WpO C ops l (put fr o.dst undef) h Q) : WpO C ops (o :: l) fr h Q := by
  cases b with
  | true =>
    obtain ⟨n, v, h', h1, m, fr2, h2, h3, h4⟩ := w
    refine ⟨max n m, fr2, h2, ?_, h4⟩
    unfold evOps
    rw [hb]
    simp only
    rw [evOp_mono (evCall_mono C (Nat.le_max_left n m)) h1]
    exact evOps_mono (evCall_mono C (Nat.le_max_right n m)) l h3
  | false =>
    obtain ⟨n, fr2, h2, h3, h4⟩ := w
    exact ⟨n, fr2, h2, by unfold evOps; rw [hb]; exact h3, h4⟩
theorem WpP.op {o : Oper} {fr : Fr} {h : Hp} {Q : Value → Hp → Prop} {v : Value} {h' : Hp} (e : ∀ call, evOp C.P call fr o h = some (v, h')) (q : Q v h') : WpP C o fr h Q := ⟨0, _, _, e _, q⟩
theorem WpP.call {o : Oper} {k : Call} {g : FuncId} {fr : Fr} {h h' : Hp} {Q : Value → Hp → Prop} {vs : List Value} {v : Value} (ho : o.op = .call k) (hk : k.callee = .value (.func g)) (ha : evs fr k.args.toList = some vs)
    (r : Ret C g vs h v h') (q : Q v h') : WpP C o fr h Q := by
  obtain ⟨n, r⟩ := r
  refine ⟨n, v, h', ?_, q⟩
  have hkd : kindOf C.P o = .eff := by unfold kindOf; rw [ho]; simp only [hk]
  unfold evOp
  rw [hkd]
  simp only [evEff, ho, evEffCall, hk, ev1, Option.bind_some, ha, List.append_nil, List.nil_append]
  exact r
theorem Ret.mk {f : FuncId} {fn : Func} {c : Code} {args : List Value} {h h' : Hp} {v : Value} (hS : C.S f = none) (hm : C.mask.testBit f = true) (hf : C.P.funcs[f]? = some fn) (hc : fn.body = some c)
    (w : Wp C c (Tr.ofList args 0 .e) h fun e fr h1 => e = .ret ∧ h1 = h' ∧ (evResults C.P fr h1 fn.results.toList).map tupled = some v) : Ret C f args h v h' := by
  obtain ⟨n, e, fr, h1, h2, rfl, rfl, h3⟩ := w
  obtain ⟨vs, h4, h5⟩ := Option.map_eq_some_iff.1 h3
  refine ⟨n + 1, ?_⟩
  unfold evCall
  rw [hS]
  simp only [hm, Bool.not_true, cond_false, hf, hc, h2, h4, Option.map_some, h5]
theorem Ret.sum {f : FuncId} {s : List Value → Hp → Option (Value × Hp)} {args : List Value} {h h' : Hp} {v : Value} (hS : C.S f = some s) (e : s args h = some (v, h')) : Ret C f args h v h' :=
  ⟨1, by unfold evCall; rw [hS]; exact e⟩
end Go.Ev
namespace Go.Ev
open Go
set_option linter.unusedSimpArgs false
set_option linter.unusedVariables false
variable {C : Ctx}
theorem WpO_nil {ops : Array Oper} {fr : Fr} {h : Hp} {Q : Fr → Hp → Prop} : WpO C ops [] fr h Q ↔ Q fr h :=
  ⟨fun ⟨_, _, _, e, q⟩ => by simp only [evOps, Option.some.injEq, Prod.mk.injEq] at e; obtain ⟨rfl, rfl⟩ := e; exact q, WpO.nil⟩
theorem WpO_cons {ops : Array Oper} {o : Oper} {l : List Oper} {fr : Fr} {h : Hp} {Q : Fr → Hp → Prop} :
    WpO C ops (o :: l) fr h Q ↔ ∃ b, evWanted ops fr o = some b ∧ (bif b then WpP C o fr h (fun v h => WpO C ops l (put fr o.dst v) h Q) else WpO C ops l (put fr o.dst undef) h Q) := by
  refine ⟨fun ⟨n, fr', h', e, q⟩ => ?_, fun ⟨b, h1, h2⟩ => WpO.cons h1 h2⟩
  unfold evOps at e
  split at e
  · rename_i hb
    split at e
    · rename_i v h1 h2
      exact ⟨true, hb, n, v, h1, h2, n, fr', h', e, q⟩
    · cases e
  · rename_i hb
    exact ⟨false, hb, n, fr', h', e, q⟩
  · cases e
theorem WpP_of {o : Oper} {fr : Fr} {h : Hp} {Q : Value → Hp → Prop} (X : Option (Value × Hp)) (hx : ∀ call, evOp C.P call fr o h = X) :
    WpP C o fr h Q ↔ ∃ r, X = some r ∧ Q r.1 r.2 := by
  refine ⟨fun ⟨n, v, h', e, q⟩ => ⟨(v, h'), by rw [← hx]; exact e, q⟩, fun ⟨r, e, q⟩ => ⟨0, r.1, r.2, by rw [hx, e], q⟩⟩
section
variable {d : Option Tmp} {ty ty' : TypeId} {p : String} {af : Array Edge} {g : Option (Nat × Bool)} {fr : Fr} {h : Hp} {Q : Value → Hp → Prop}
theorem WpP_pure {o : Oper} (hk : kindOf C.P o = .pure) : WpP C o fr h Q ↔ ∃ v, evPure C.P fr o = some v ∧ Q v h := by
  rw [WpP_of ((evPure C.P fr o).map fun v => (v, h)) (fun call => by unfold evOp; rw [hk])]
  constructor
  · rintro ⟨r, e, q⟩
    obtain ⟨v, h1, rfl⟩ := Option.map_eq_some_iff.1 e
    exact ⟨v, h1, q⟩
  · rintro ⟨v, e, q⟩
    exact ⟨(v, h), by rw [e]; rfl, q⟩
theorem WpP_read {o : Oper} (hk : kindOf C.P o = .read) : WpP C o fr h Q ↔ ∃ v, evReadOrPure C.P fr o h = some v ∧ Q v h := by
  rw [WpP_of ((evReadOrPure C.P fr o h).map fun v => (v, h)) (fun call => by unfold evOp; rw [hk])]
  constructor
  · rintro ⟨r, e, q⟩
    obtain ⟨v, h1, rfl⟩ := Option.map_eq_some_iff.1 e
    exact ⟨v, h1, q⟩
  · rintro ⟨v, e, q⟩
    exact ⟨(v, h), by rw [e]; rfl, q⟩
theorem WpP_new {o : Oper} (hk : kindOf C.P o = .new) : WpP C o fr h Q ↔ ∃ x, evNew C.P fr o = some x ∧ Q (x.2 h.next) (h.push x.1) := by
  rw [WpP_of ((evNew C.P fr o).map fun (ob, mk) => (mk h.next, h.push ob)) (fun call => by unfold evOp; rw [hk])]
  constructor
  · rintro ⟨r, e, q⟩
    obtain ⟨v, h1, rfl⟩ := Option.map_eq_some_iff.1 e
    exact ⟨v, h1, q⟩
  · rintro ⟨v, e, q⟩
    exact ⟨_, by rw [e]; rfl, q⟩
theorem WpP_move {x : Operand} : WpP C ⟨d, .move x, ty, p, af, g⟩ fr h Q ↔ ∃ v, ev1 fr x = some v ∧ Q v h := WpP_pure rfl
theorem WpP_assign {x : Operand} : WpP C ⟨d, .assign x, ty, p, af, g⟩ fr h Q ↔ ∃ v, ev1 fr x = some v ∧ Q v h := WpP_pure rfl
theorem WpP_pick {c a b : Operand} : WpP C ⟨d, .pick c a b, ty, p, af, g⟩ fr h Q ↔ ∃ v, ((ev1 fr c).bind fun
    | .bool true => ev1 fr a
    | .bool false => ev1 fr b
    | _ => none) = some v ∧ Q v h := WpP_pure rfl
theorem WpP_build {t : TypeId} {ps : Array (Nat × Operand)} : WpP C ⟨d, .build t ps, ty, p, af, g⟩ fr h Q ↔ ∃ v, ((evParts fr ps.toList).bind (evBuild C.P t)) = some v ∧ Q v h := WpP_pure rfl
theorem WpP_extract {x : Operand} {i : Nat} : WpP C ⟨d, .extract x i, ty, p, af, g⟩ fr h Q ↔ ∃ v, ((ev1 fr x).bind fun
    | .tuple vs => vs[i]?
    | _ => none) = some v ∧ Q v h := WpP_pure rfl
theorem WpP_field {t : TypeId} {x : Operand} {i : Nat} : WpP C ⟨d, .field t x i, ty, p, af, g⟩ fr h Q ↔ ∃ v, ((ev1 fr x).bind fun a => evField C.P t a i) = some v ∧ Q v h := WpP_pure rfl
theorem WpP_fieldAddr {t : TypeId} {x : Operand} {i : Nat} : WpP C ⟨d, .fieldAddr t x i, ty, p, af, g⟩ fr h Q ↔ ∃ v, ((ev1 fr x).bind fun a => evFieldAddr C.P t a i) = some v ∧ Q v h := WpP_pure rfl
theorem WpP_indexAddr {t : TypeId} {x i : Operand} : WpP C ⟨d, .indexAddr t x i, ty, p, af, g⟩ fr h Q ↔ ∃ v, ((ev1 fr x).bind fun a => (ev1 fr i).bind fun b => evIndexAddr C.P t a b) = some v ∧ Q v h := WpP_pure rfl
theorem WpP_index {t : TypeId} {x i : Operand} : WpP C ⟨d, .index t x i, ty, p, af, g⟩ fr h Q ↔ ∃ v, ((ev1 fr x).bind fun a => (ev1 fr i).bind fun b => evIndex C.P t a b) = some v ∧ Q v h := WpP_pure rfl
theorem WpP_unOp {op : UnOp} {t : TypeId} {x : Operand} : WpP C ⟨d, .unOp op t x, ty, p, af, g⟩ fr h Q ↔ ∃ v, ((ev1 fr x).bind fun a => bif scal a then prunS C.P (Op.unary op a) else none) = some v ∧ Q v h := WpP_pure rfl
theorem WpP_load {t : TypeId} {x : Operand} : WpP C ⟨d, .load t x, ty, p, af, g⟩ fr h Q ↔ ∃ v, ((ev1 fr x).bind fun a => evLoad C.P t a h) = some v ∧ Q v h := by
  rw [WpP_read rfl]
  unfold evReadOrPure
  simp only [evRead, evPure]
  cases ((ev1 fr x).bind fun a => evLoad C.P t a h) <;> simp
theorem WpP_binOp {op : BinOp} {t : TypeId} {x y : Operand} (hop : evBin.tPtr C.P t = false) : WpP C ⟨d, .binOp op t x y ty', ty, p, af, g⟩ fr h Q ↔ ∃ v, ((ev1 fr x).bind fun a => (ev1 fr y).bind fun b => evBin C.P op t x y a b) = some v ∧ Q v h :=
  WpP_pure (by simp only [kindOf, hop, cond_false]; cases op <;> rfl)
theorem WpP_len {t : TypeId} {x : Operand} (ht : tMap C.P t = none) : WpP C ⟨d, .call ⟨.builtin .len, #[x], #[t]⟩, ty, p, af, g⟩ fr h Q ↔ ∃ v, ((ev1 fr x).bind fun
      | .string s => bif tString C.P t == some true then some (.int .i64 s.size) else none
      | .slice _ n _ => bif (tSliceElem C.P t).isSome then some (.int .i64 n) else none
      | _ => none) = some v ∧ Q v h := WpP_pure (by simp only [kindOf, ht, Option.isSome_none, cond_false])
end
section
variable {P : Program} {t : TypeId} {xo yo : Operand} {k : IntKind} {a b : Int}
theorem evBin_int (op : BinOp) : evBin P op t xo yo (.int k a) (.int k b) = prunS P (binOp op t (.int k a) (.int k b)) := by
  cases op <;> rfl
theorem evBin_lss : evBin P .lss t xo yo (.int k a) (.int k b) = some (.bool (decide (a < b))) := by rw [evBin_int]; simp [prunS, binOp, Op.intCmp]; rfl
theorem evBin_leq : evBin P .leq t xo yo (.int k a) (.int k b) = some (.bool (decide (a ≤ b))) := by rw [evBin_int]; simp [prunS, binOp, Op.intCmp]; rfl
theorem evBin_gtr : evBin P .gtr t xo yo (.int k a) (.int k b) = some (.bool (decide (b < a))) := by rw [evBin_int]; simp [prunS, binOp, Op.intCmp]; rfl
theorem evBin_geq : evBin P .geq t xo yo (.int k a) (.int k b) = some (.bool (decide (b ≤ a))) := by rw [evBin_int]; simp [prunS, binOp, Op.intCmp]; rfl
theorem evBin_eql : evBin P .eql t xo yo (.int k a) (.int k b) = some (.bool (a == b)) := by rw [evBin_int]; simp [prunS, binOp, Op.intCmp]; rfl
theorem evBin_neq : evBin P .neq t xo yo (.int k a) (.int k b) = some (.bool (a != b)) := by rw [evBin_int]; simp [prunS, binOp, Op.intCmp]; rfl
theorem evBin_add : evBin P .add t xo yo (.int k a) (.int k b) = some (.int k (k.wrap (a + b))) := by rw [evBin_int]; simp [prunS, binOp, Op.intArith]; rfl
theorem evBin_sub : evBin P .sub t xo yo (.int k a) (.int k b) = some (.int k (k.wrap (a - b))) := by rw [evBin_int]; simp [prunS, binOp, Op.intArith]; rfl
theorem evBin_rem (hb : b ≠ 0) : evBin P .rem t xo yo (.int k a) (.int k b) = some (.int k (a.tmod b)) := by rw [evBin_int]; simp [prunS, binOp, Op.intDiv, hb]; rfl
theorem evBin_eqlS {s u : ByteArray} : evBin P .eql t xo yo (.string s) (.string u) = some (.bool (s.toList == u.toList)) := rfl
theorem evBin_neqS {s u : ByteArray} : evBin P .neq t xo yo (.string s) (.string u) = some (.bool !(s.toList == u.toList)) := rfl
end
end Go.Ev
namespace Go.Ev
open Go
set_option linter.unusedSimpArgs false
set_option linter.unusedVariables false
def onSome {α : Type} (x : Option α) (f : α → Prop) : Prop := ∃ a, x = some a ∧ f a
theorem onSome_some {α : Type} (a : α) (f : α → Prop) : onSome (some a) f = f a := by simp [onSome]
theorem onSome_bind {α β : Type} (x : Option α) (g : α → Option β) (f : β → Prop) : onSome (x.bind g) f = onSome x fun a => onSome (g a) f := by
  simp only [onSome, Option.bind_eq_some_iff]
  exact propext ⟨fun ⟨b, ⟨a, h1, h2⟩, h3⟩ => ⟨a, h1, b, h2, h3⟩, fun ⟨a, h1, b, h2, h3⟩ => ⟨b, ⟨a, h1, h2⟩, h3⟩⟩
theorem onSome_map {α β : Type} (x : Option α) (g : α → β) (f : β → Prop) : onSome (x.map g) f = onSome x fun a => f (g a) := by
  simp only [onSome, Option.map_eq_some_iff]
  exact propext ⟨fun ⟨b, ⟨a, h1, h2⟩, h3⟩ => ⟨a, h1, h2 ▸ h3⟩, fun ⟨a, h1, h3⟩ => ⟨g a, ⟨a, h1, rfl⟩, h3⟩⟩
variable {C : Ctx}
def nextP (C : Ctx) (b : Code) (Q : Ex → Fr → Hp → Prop) : Ex → Fr → Hp → Prop
  | .norm, fr, h => Wp C b fr h Q
  | e, fr, h => Q e fr h
def outP (i : Nat) (Q : Ex → Fr → Hp → Prop) : Ex → Fr → Hp → Prop
  | .exit j, fr, h => bif Nat.beq j i then Q .norm fr h else Q (.exit j) fr h
  | e, fr, h => Q e fr h
section
variable {fr : Fr} {h : Hp} {Q : Ex → Fr → Hp → Prop} {a b : Code} {i j : Nat} {ops : Array Oper}
theorem nextP_norm : nextP C b Q .norm fr h = Wp C b fr h Q := rfl
theorem nextP_ret : nextP C b Q .ret fr h = Q .ret fr h := rfl
theorem nextP_exit : nextP C b Q (.exit i) fr h = Q (.exit i) fr h := rfl
theorem outP_norm : outP i Q .norm fr h = Q .norm fr h := rfl
theorem outP_ret : outP i Q .ret fr h = Q .ret fr h := rfl
theorem outP_same : outP i Q (.exit i) fr h = Q .norm fr h := by simp [outP]
theorem Wp_seq : Wp C (.seq a b) fr h Q = Wp C a fr h (nextP C b Q) := by
  refine propext ⟨fun ⟨n, e, fr', h', e1, q⟩ => ?_, fun w => Wp.seq (w.mono fun e fr h q => by cases e <;> exact q)⟩
  unfold evCode at e1
  split at e1
  · rename_i fr1 h1 h2
    exact ⟨n, .norm, fr1, h1, h2, n, e, fr', h', e1, q⟩
  · rename_i hne
    refine ⟨n, e, fr', h', e1, ?_⟩
    cases e with
    | norm => exact absurd e1 (hne _ _)
    | ret => exact q
    | exit i => exact q
theorem Wp_skip : Wp C .skip fr h Q = Q .norm fr h :=
  propext ⟨fun ⟨n, e, fr', h', e1, q⟩ => by simp only [evCode, Option.some.injEq, Prod.mk.injEq] at e1; obtain ⟨rfl, rfl, rfl⟩ := e1; exact q, Wp.skip⟩
theorem Wp_ret : Wp C .ret fr h Q = Q .ret fr h :=
  propext ⟨fun ⟨n, e, fr', h', e1, q⟩ => by simp only [evCode, Option.some.injEq, Prod.mk.injEq] at e1; obtain ⟨rfl, rfl, rfl⟩ := e1; exact q, Wp.ret⟩
theorem Wp_exit : Wp C (.exit i) fr h Q = Q (.exit i) fr h :=
  propext ⟨fun ⟨n, e, fr', h', e1, q⟩ => by simp only [evCode, Option.some.injEq, Prod.mk.injEq] at e1; obtain ⟨rfl, rfl, rfl⟩ := e1; exact q, Wp.exit⟩
def asB : Value → Option Bool
  | .bool b => some b
  | _ => none
def kCond2 (C : Ctx) (a b : Code) (fr : Fr) (h : Hp) (Q : Ex → Fr → Hp → Prop) (c : Bool) : Prop := bif c then Wp C a fr h Q else Wp C b fr h Q
theorem kCond2_true : kCond2 C a b fr h Q true = Wp C a fr h Q := rfl
theorem kCond2_false : kCond2 C a b fr h Q false = Wp C b fr h Q := rfl
def kCond (C : Ctx) (a b : Code) (fr : Fr) (h : Hp) (Q : Ex → Fr → Hp → Prop) (v : Value) : Prop := onSome (asB v) (kCond2 C a b fr h Q)
theorem kCond_eq {c : Bool} : kCond C a b fr h Q (.bool c) = kCond2 C a b fr h Q c := onSome_some _ _
theorem Wp_cond {x : Operand} : Wp C (.cond x a b) fr h Q = onSome (ev1 fr x) (kCond C a b fr h Q) := by
  refine propext ⟨fun ⟨n, e, fr', h', e1, q⟩ => ?_, fun ⟨v, h1, c, h2, h3⟩ => ?_⟩
  · unfold evCode at e1
    split at e1
    · rename_i hc; exact ⟨_, hc, true, rfl, n, e, fr', h', e1, q⟩
    · rename_i hc; exact ⟨_, hc, false, rfl, n, e, fr', h', e1, q⟩
    · cases e1
  · cases v <;> simp only [asB, Option.some.injEq, reduceCtorEq] at h2
    subst h2
    exact Wp.cond h1 (by cases ‹Bool› <;> exact h3)
theorem Wp_block : Wp C (.block i a) fr h Q = Wp C a fr h (outP i Q) := by
  refine propext ⟨fun ⟨n, e, fr', h', e1, q⟩ => ?_, fun w => Wp.block (w.mono fun e fr h q => by cases e <;> exact q)⟩
  unfold evCode at e1
  split at e1
  · rename_i j fr1 h1 h2
    refine ⟨n, .exit j, fr1, h1, h2, ?_⟩
    show bif Nat.beq j i then Q .norm fr1 h1 else Q (.exit j) fr1 h1
    cases hj : Nat.beq j i with
    | true => rw [hj] at e1; simp at e1; obtain ⟨rfl, rfl, rfl⟩ := e1; exact q
    | false => rw [hj] at e1; simp at e1; obtain ⟨rfl, rfl, rfl⟩ := e1; exact q
  · rename_i hne
    refine ⟨n, e, fr', h', e1, ?_⟩
    cases e with
    | norm => exact q
    | ret => exact q
    | exit j => exact absurd e1 (hne _ _ _)
def doneP (Q : Ex → Fr → Hp → Prop) (fr : Fr) (h : Hp) : Prop := Q .norm fr h
theorem doneP_eq : doneP Q fr h = Q .norm fr h := rfl
theorem Wp_region : Wp C (.region i ops false) fr h Q = WpO C ops ops.toList fr h (doneP Q) := by
  refine propext ⟨fun ⟨n, e, fr', h', e1, q⟩ => ?_, fun w => Wp.region w⟩
  unfold evCode at e1
  simp only [cond_false] at e1
  split at e1
  · rename_i fr1 h1 h2
    simp only [Option.some.injEq, Prod.mk.injEq] at e1
    obtain ⟨rfl, rfl, rfl⟩ := e1
    exact ⟨n, _, _, h2, q⟩
  · cases e1
end
section
variable {ops : Array Oper} {o : Oper} {l : List Oper} {fr : Fr} {h : Hp} {Q : Fr → Hp → Prop} {R : Value → Hp → Prop}
def stepP (C : Ctx) (ops : Array Oper) (d : Option Tmp) (l : List Oper) (fr : Fr) (Q : Fr → Hp → Prop) (v : Value) (h : Hp) : Prop := WpO C ops l (put fr d v) h Q
theorem stepP_some {d : Tmp} {v : Value} : stepP C ops (some d) l fr Q v h = WpO C ops l (fr.set d v) h Q := rfl
theorem stepP_none {v : Value} : stepP C ops none l fr Q v h = WpO C ops l fr h Q := rfl
theorem WpO_nil' : WpO C ops [] fr h Q = Q fr h := propext WpO_nil
def kWant (C : Ctx) (ops : Array Oper) (o : Oper) (l : List Oper) (fr : Fr) (h : Hp) (Q : Fr → Hp → Prop) (b : Bool) : Prop := bif b then WpP C o fr h (stepP C ops o.dst l fr Q) else stepP C ops o.dst l fr Q undef h
theorem kWant_true : kWant C ops o l fr h Q true = WpP C o fr h (stepP C ops o.dst l fr Q) := rfl
theorem kWant_false : kWant C ops o l fr h Q false = stepP C ops o.dst l fr Q undef h := rfl
theorem WpO_cons' : WpO C ops (o :: l) fr h Q = onSome (evWanted ops fr o) (kWant C ops o l fr h Q) := propext WpO_cons
end
theorem wanted_none {ops : Array Oper} {fr : Fr} {d : Option Tmp} {op : Op} {ty : TypeId} {p : String} {af : Array Edge} : evWanted ops fr ⟨d, op, ty, p, af, none⟩ = some true := rfl
def asW (w : Bool) : Value → Option Bool
  | .bool b => some (b == w)
  | .tuple _ => some false
  | _ => none
theorem asW_tuple (w : Bool) (vs : Array Value) : asW w (.tuple vs) = some false := rfl
def slotAt (ops : Array Oper) (j : Nat) : Option Tmp := (ops[j]?).bind (·.dst)
theorem wanted_some {ops : Array Oper} {fr : Fr} {d : Option Tmp} {op : Op} {ty : TypeId} {p : String} {af : Array Edge} {j : Nat} {w : Bool} :
    evWanted ops fr ⟨d, op, ty, p, af, some (j, w)⟩ = (slotAt ops j).bind fun t => (fr.get t).bind (asW w) := by
  unfold evWanted slotAt
  simp only
  cases ((ops[j]?).bind (·.dst)) with
  | none => rfl
  | some t =>
    simp only [Option.bind_some]
    cases fr.get t with
    | none => rfl
    | some v => cases v <;> rfl
section
variable {d : Option Tmp} {ty ty' : TypeId} {p : String} {af : Array Edge} {g : Option (Nat × Bool)} {fr : Fr} {h : Hp} {Q : Value → Hp → Prop}
def at' (Q : Value → Hp → Prop) (h : Hp) (v : Value) : Prop := Q v h
theorem at_eq {v : Value} : at' Q h v = Q v h := rfl
theorem P_move {x : Operand} : WpP C ⟨d, .move x, ty, p, af, g⟩ fr h Q = onSome (ev1 fr x) (at' Q h) := propext WpP_move
theorem P_assign {x : Operand} : WpP C ⟨d, .assign x, ty, p, af, g⟩ fr h Q = onSome (ev1 fr x) (at' Q h) := propext WpP_assign
def kPick (a b : Operand) (fr : Fr) (h : Hp) (Q : Value → Hp → Prop) (v : Value) : Prop := onSome (asB v) fun c => onSome (ev1 fr (bif c then a else b)) (at' Q h)
theorem kPick_true {a b : Operand} : kPick a b fr h Q (.bool true) = onSome (ev1 fr a) (at' Q h) := onSome_some _ _
theorem kPick_false {a b : Operand} : kPick a b fr h Q (.bool false) = onSome (ev1 fr b) (at' Q h) := onSome_some _ _
theorem P_pick {c a b : Operand} : WpP C ⟨d, .pick c a b, ty, p, af, g⟩ fr h Q = onSome (ev1 fr c) (kPick a b fr h Q) := by
  rw [propext WpP_pick]
  refine propext ⟨fun ⟨v, h1, h2⟩ => ?_, fun ⟨v, h1, c, h2, h3⟩ => ?_⟩
  · rw [Option.bind_eq_some_iff] at h1
    obtain ⟨u, h3, h4⟩ := h1
    split at h4
    · exact ⟨_, h3, true, rfl, v, h4, h2⟩
    · exact ⟨_, h3, false, rfl, v, h4, h2⟩
    · cases h4
  · cases v <;> simp only [asB, Option.some.injEq, reduceCtorEq] at h2
    subst h2
    rename_i b'
    cases b' with
    | true => obtain ⟨v, h4, h5⟩ := h3; exact ⟨v, by rw [h1]; exact h4, h5⟩
    | false => obtain ⟨v, h4, h5⟩ := h3; exact ⟨v, by rw [h1]; exact h4, h5⟩
def kTwo2 (F : Value → Value → Option Value) (h : Hp) (Q : Value → Hp → Prop) (a b : Value) : Prop := onSome (F a b) (at' Q h)
theorem kTwo2_eq {F : Value → Value → Option Value} {a b : Value} : kTwo2 F h Q a b = onSome (F a b) (at' Q h) := rfl
def kTwo (y : Operand) (F : Value → Value → Option Value) (fr : Fr) (h : Hp) (Q : Value → Hp → Prop) (a : Value) : Prop := onSome (ev1 fr y) (kTwo2 F h Q a)
theorem kTwo_eq {y : Operand} {F : Value → Value → Option Value} {a : Value} : kTwo y F fr h Q a = onSome (ev1 fr y) (kTwo2 F h Q a) := rfl
def kOne (F : Value → Option Value) (h : Hp) (Q : Value → Hp → Prop) (a : Value) : Prop := onSome (F a) (at' Q h)
theorem kOne_eq {F : Value → Option Value} {a : Value} : kOne F h Q a = onSome (F a) (at' Q h) := rfl
theorem P_binOp {op : BinOp} {t : TypeId} {x y : Operand} (hop : evBin.tPtr C.P t = false) : WpP C ⟨d, .binOp op t x y ty', ty, p, af, g⟩ fr h Q = onSome (ev1 fr x) (kTwo y (evBin C.P op t x y) fr h Q) := by
  rw [propext (WpP_binOp hop)]
  show onSome _ _ = _
  simp only [onSome_bind]
  rfl
theorem P_unOp {op : UnOp} {t : TypeId} {x : Operand} : WpP C ⟨d, .unOp op t x, ty, p, af, g⟩ fr h Q = onSome (ev1 fr x) (kOne (fun a => bif scal a then prunS C.P (Op.unary op a) else none) h Q) := by
  rw [propext WpP_unOp]
  show onSome _ _ = _
  simp only [onSome_bind]
  rfl
def evLen (P : Program) (t : TypeId) : Value → Option Value
  | .string s => bif tString P t == some true then some (.int .i64 s.size) else none
  | .slice _ n _ => bif (tSliceElem P t).isSome then some (.int .i64 n) else none
  | _ => none
theorem evLen_string {P : Program} {t : TypeId} {s : ByteArray} (ht : tString P t = some true) : evLen P t (.string s) = some (.int .i64 s.size) := by simp [evLen, ht]
theorem evLen_slice {P : Program} {t e : TypeId} {a : Option Addr} {n c : Nat} (ht : tSliceElem P t = some e) : evLen P t (.slice a n c) = some (.int .i64 n) := by simp [evLen, ht]
theorem P_len {t : TypeId} {x : Operand} (ht : tMap C.P t = none) : WpP C ⟨d, .call ⟨.builtin .len, #[x], #[t]⟩, ty, p, af, g⟩ fr h Q = onSome (ev1 fr x) (kOne (evLen C.P t) h Q) := by
  rw [propext (WpP_len ht)]
  show onSome _ _ = _
  simp only [onSome_bind]
  rfl
theorem P_index {t : TypeId} {x i : Operand} : WpP C ⟨d, .index t x i, ty, p, af, g⟩ fr h Q = onSome (ev1 fr x) (kTwo i (evIndex C.P t) fr h Q) := by
  rw [propext WpP_index]; show onSome _ _ = _; simp only [onSome_bind]; rfl
theorem P_indexAddr {t : TypeId} {x i : Operand} : WpP C ⟨d, .indexAddr t x i, ty, p, af, g⟩ fr h Q = onSome (ev1 fr x) (kTwo i (evIndexAddr C.P t) fr h Q) := by
  rw [propext WpP_indexAddr]; show onSome _ _ = _; simp only [onSome_bind]; rfl
theorem P_field {t : TypeId} {x : Operand} {i : Nat} : WpP C ⟨d, .field t x i, ty, p, af, g⟩ fr h Q = onSome (ev1 fr x) (kOne (fun a => evField C.P t a i) h Q) := by
  rw [propext WpP_field]; show onSome _ _ = _; simp only [onSome_bind]; rfl
theorem P_fieldAddr {t : TypeId} {x : Operand} {i : Nat} : WpP C ⟨d, .fieldAddr t x i, ty, p, af, g⟩ fr h Q = onSome (ev1 fr x) (kOne (fun a => evFieldAddr C.P t a i) h Q) := by
  rw [propext WpP_fieldAddr]; show onSome _ _ = _; simp only [onSome_bind]; rfl
theorem P_load {t : TypeId} {x : Operand} : WpP C ⟨d, .load t x, ty, p, af, g⟩ fr h Q = onSome (ev1 fr x) (kOne (fun a => evLoad C.P t a h) h Q) := by
  rw [propext WpP_load]; show onSome _ _ = _; simp only [onSome_bind]; rfl
def callP (C : Ctx) (f : FuncId) (h : Hp) (Q : Value → Hp → Prop) (vs : List Value) : Prop := ∃ v h', Ret C f vs h v h' ∧ Q v h'
theorem callP_of {f : FuncId} {vs : List Value} {v : Value} {h' : Hp} (r : Ret C f vs h v h') : callP C f h Q vs = Q v h' :=
  propext ⟨fun ⟨v2, h2, r2, q⟩ => by obtain ⟨rfl, rfl⟩ := r.det r2; exact q, fun q => ⟨v, h', r, q⟩⟩
theorem P_call {f : FuncId} {as0 : Array Operand} {ts : Array TypeId} : WpP C ⟨d, .call ⟨.value (.func f), as0, ts⟩, ty, p, af, g⟩ fr h Q = onSome (evs fr as0.toList) (callP C f h Q) := by
  refine propext ⟨fun ⟨n, v, h', e, q⟩ => ?_, fun ⟨vs, h1, v, h', h2, h3⟩ => WpP.call rfl rfl h1 h2 h3⟩
  have e : evEff C.P (evCall C n) fr ⟨d, .call ⟨.value (.func f), as0, ts⟩, ty, p, af, g⟩ h = some (v, h') := e
  simp only [evEff, evEffCall, ev1, Option.bind_some] at e
  obtain ⟨vs, h1, h2⟩ := Option.bind_eq_some_iff.1 e
  exact ⟨vs, h1, v, h', ⟨n, by simpa using h2⟩, q⟩
end
theorem ev1_tmp {fr : Fr} {t : Nat} : ev1 fr (.tmp t) = fr.get t := rfl
theorem ev1_func {fr : Fr} {f : Nat} : ev1 fr (.func f) = some (.func (.func f) #[] #[]) := rfl
theorem ev1_int {fr : Fr} {k : IntKind} {n : Int} : ev1 fr (.const (.int k n)) = some (.int k n) := rfl
theorem ev1_bool {fr : Fr} {b : Bool} : ev1 fr (.const (.bool b)) = some (.bool b) := rfl
theorem ev1_string {fr : Fr} {s : ByteArray} : ev1 fr (.const (.string s)) = some (.string s) := rfl
theorem evs_nil {fr : Fr} : evs fr [] = some [] := rfl
theorem evs_cons {fr : Fr} {x : Operand} {l : List Operand} : evs fr (x :: l) = (ev1 fr x).bind fun v => (evs fr l).bind fun vs => some (v :: vs) := rfl
end Go.Ev
namespace Go.Ev
open Go
set_option linter.unusedSimpArgs false
set_option linter.unusedVariables false
theorem all2_refl {f : Value → Value → Bool} : ∀ l : List Value, (∀ a ∈ l, f a a = true) → veqF.all2 f l l = true
  | [], _ => rfl
  | a :: l, h => by
    simp only [veqF.all2, h a (List.mem_cons_self ..), Bool.true_and]
    exact all2_refl l fun b hb => h b (List.mem_cons_of_mem _ hb)
theorem veqF_refl : ∀ (n : Nat) (v : Value), SizeOf.sizeOf v ≤ n → veqF n v v = true := by
  intro n
  induction n with
  | zero => intro v hv; cases v <;> simp at hv <;> (try omega)
  | succ n ih =>
    intro v hv
    have arr : ∀ (c : Array Value), SizeOf.sizeOf c ≤ n → ∀ a ∈ c.toList, veqF n a a = true := fun c hc a ha => ih a (by
      have h1 := List.sizeOf_lt_of_mem ha
      have h2 : SizeOf.sizeOf c.toList < SizeOf.sizeOf c := by cases c; simp
      omega)
    cases v with
    | agg c => simp only [Value.agg.sizeOf_spec] at hv; simp only [veqF]; exact all2_refl _ (arr c (by omega))
    | tuple c => simp only [Value.tuple.sizeOf_spec] at hv; simp only [veqF]; exact all2_refl _ (arr c (by omega))
    | func f a c => simp only [Value.func.sizeOf_spec] at hv; simp only [veqF]; rw [all2_refl _ (arr a (by omega)), all2_refl _ (arr c (by omega))]; simp
    | iface t v => simp only [Value.iface.sizeOf_spec] at hv; simp only [veqF]; rw [ih v (by omega)]; simp
    | _ => simp [veqF]
theorem veq_refl (v : Value) : veq v v = true := veqF_refl _ v (Nat.le_refl _)
variable {C : Ctx}
def WpT (C : Ctx) (ops : Array Oper) (L : List Nat) (s : Trc) (Q : Trc → Prop) : Prop := ∃ n s', trc C.P (evCall C n) ops L s = some s' ∧ Q s'
noncomputable def readsB (C : Ctx) (ops : Array Oper) (s : Trc) : Bool := readsOk C.P ops ((List.range ops.size).filter fun j => kindAt C.P ops j == .eff) s
def doneT (C : Ctx) (ops : Array Oper) (Q : Ex → Fr → Hp → Prop) (s : Trc) : Prop := readsB C ops s = true ∧ Q .norm s.fr s.h
theorem Wp_draw {i : Nat} {ops : Array Oper} {fr : Fr} {h : Hp} {Q : Ex → Fr → Hp → Prop} {L : List Nat} (hL : sched C.P ops = L) :
    Wp C (.region i ops true) fr h Q = WpT C ops L ⟨fr, h, [], [([], h)], []⟩ (doneT C ops Q) := by
  subst hL
  refine propext ⟨fun ⟨n, e, fr', h', e1, q⟩ => ?_, fun ⟨n, s, h1, h2, h3⟩ => ⟨n, .norm, s.fr, s.h, ?_, h3⟩⟩
  · unfold evCode at e1
    simp only [cond_true] at e1
    split at e1
    · rename_i fr1 h1 h2
      simp only [Option.some.injEq, Prod.mk.injEq] at e1
      obtain ⟨rfl, rfl, rfl⟩ := e1
      unfold evDraw at h2
      split at h2
      · rename_i s hs
        cases hr : readsOk C.P ops ((List.range ops.size).filter fun j => kindAt C.P ops j == .eff) s with
        | false => rw [hr] at h2; simp at h2
        | true =>
          rw [hr] at h2
          simp only [cond_true, Option.some.injEq, Prod.mk.injEq] at h2
          obtain ⟨rfl, rfl⟩ := h2
          exact ⟨n, s, hs, hr, q⟩
      · cases h2
    · cases e1
  · unfold evCode
    simp only [cond_true]
    unfold evDraw
    rw [h1]
    unfold readsB at h2
    simp only [h2, cond_true]
section
variable {ops : Array Oper} {L : List Nat} {s : Trc} {Q : Trc → Prop} {j : Nat} {o : Oper}
def stepT (C : Ctx) (ops : Array Oper) (L : List Nat) (j : Nat) (k : Kd) (d : Option Tmp) (s : Trc) (Q : Trc → Prop) (v : Value) (h : Hp) : Prop :=
  WpT C ops L (match k with
    | .eff => { fr := put s.fr d v, h := h, done := j :: s.done, bs := (j :: s.done, h) :: s.bs, rs := s.rs }
    | .read => { s with fr := put s.fr d v, h := h, rs := (j, s.fr, v) :: s.rs }
    | _ => { s with fr := put s.fr d v, h := h }) Q
end
section
variable {d : Option Tmp} {ty ty' : TypeId} {p : String} {af : Array Edge} {g : Option (Nat × Bool)} {fr : Fr} {h : Hp} {Q : Value → Hp → Prop}
def kPair (Q : Value → Hp → Prop) (r : Value × Hp) : Prop := Q r.1 r.2
theorem kPair_eq {v : Value} : kPair Q (v, h) = Q v h := rfl
theorem P_any {o : Oper} (X : Option (Value × Hp)) (hx : ∀ call, evOp C.P call fr o h = X) : WpP C o fr h Q = onSome X (kPair Q) := propext (WpP_of X hx)
theorem P_nilCheck {x : Operand} : WpP C ⟨d, .nilCheck x, ty, p, af, g⟩ fr h Q = onSome (ev1 fr x) (kOne (fun | .pointer (some a) => some (.pointer (some a)) | _ => none) h Q) := by
  rw [propext (WpP_pure rfl)]; show onSome _ _ = _; simp only [evPure, onSome_bind]; rfl
def kExtract (i : Nat) : Value → Option Value
  | .tuple vs => vs[i]?
  | _ => none
theorem kExtract_eq {i : Nat} {vs : Array Value} : kExtract i (.tuple vs) = vs[i]? := rfl
theorem P_extract {x : Operand} {i : Nat} : WpP C ⟨d, .extract x i, ty, p, af, g⟩ fr h Q = onSome (ev1 fr x) (kOne (kExtract i) h Q) := by
  rw [propext (WpP_pure rfl)]; show onSome _ _ = _; simp only [evPure, onSome_bind]; rfl
def kBuild (P : Program) (t : TypeId) (h : Hp) (Q : Value → Hp → Prop) (ps : List (Nat × Value)) : Prop := onSome (evBuild P t ps) (at' Q h)
theorem kBuild_eq {P : Program} {t : TypeId} {ps : List (Nat × Value)} : kBuild P t h Q ps = onSome (evBuild P t ps) (at' Q h) := rfl
theorem P_build {t : TypeId} {ps : Array (Nat × Operand)} : WpP C ⟨d, .build t ps, ty, p, af, g⟩ fr h Q = onSome (evParts fr ps.toList) (kBuild C.P t h Q) := by
  rw [propext WpP_build]; show onSome _ _ = _; simp only [onSome_bind]; rfl
theorem P_convert {s t : TypeId} {x : Operand} (hs : tSliceElem C.P s = none) : WpP C ⟨d, .convert s t x, ty, p, af, g⟩ fr h Q = onSome (ev1 fr x) (kOne (fun a => bif scal a then prunS C.P (convert s t a) else none) h Q) := by
  rw [propext (WpP_pure (by simp [kindOf, hs]))]; show onSome _ _ = _; simp only [evPure, onSome_bind]; rfl
def kSlice (P : Program) (t : TypeId) (lo hi mx : Option Operand) (fr : Fr) (h : Hp) (Q : Value → Hp → Prop) (a : Value) : Prop :=
  onSome (evPure.opt fr lo) fun lo => onSome (evPure.opt fr hi) fun hi => onSome (evPure.opt fr mx) fun mx => onSome (evSlice P t a lo hi mx) (at' Q h)
theorem P_slice {t : TypeId} {x : Operand} {lo hi mx : Option Operand} : WpP C ⟨d, .slice t x lo hi mx, ty, p, af, g⟩ fr h Q = onSome (ev1 fr x) (kSlice C.P t lo hi mx fr h Q) := by
  rw [propext (WpP_pure rfl)]; show onSome _ _ = _; simp only [evPure, onSome_bind]; rfl
def kNew (h : Hp) (Q : Value → Hp → Prop) (x : Ob × (Nat → Value)) : Prop := Q (x.2 h.next) (h.push x.1)
theorem kNew_eq {ob : Ob} {mk : Nat → Value} : kNew h Q (ob, mk) = Q (mk h.next) (h.push ob) := rfl
theorem P_alloc {t : TypeId} {z : Value} (hz : tZero C.P t = some z) (hf : flat z = true) : WpP C ⟨d, .alloc t, ty, p, af, g⟩ fr h Q = Q (.pointer (some ⟨h.next, 0, none⟩)) (h.push (.row z.cells.toList t (.rw 0 []))) := by
  rw [propext (WpP_new rfl)]; show onSome _ _ = _; simp only [evNew, hz, Option.bind_some, hf, Bool.not_true, cond_false, onSome_some]
def kBox (t : TypeId) (h : Hp) (Q : Value → Hp → Prop) (v : Value) : Prop := bif boxable v then Q (.pointer (some ⟨h.next, 0, none⟩)) (h.push (.row v.cells.toList t (.rw 0 []))) else False
theorem kBox_agg {t : TypeId} {cs : Array Value} : kBox t h Q (.agg cs) = Q (.pointer (some ⟨h.next, 0, none⟩)) (h.push (.row cs.toList t (.rw 0 []))) := rfl
theorem kBox_int {t : TypeId} {k : IntKind} {n : Int} : kBox t h Q (.int k n) = Q (.pointer (some ⟨h.next, 0, none⟩)) (h.push (.row [.int k n] t (.rw 0 []))) := rfl
theorem kBox_bool {t : TypeId} {b : Bool} : kBox t h Q (.bool b) = Q (.pointer (some ⟨h.next, 0, none⟩)) (h.push (.row [.bool b] t (.rw 0 []))) := rfl
theorem kBox_string {t : TypeId} {s : ByteArray} : kBox t h Q (.string s) = Q (.pointer (some ⟨h.next, 0, none⟩)) (h.push (.row [.string s] t (.rw 0 []))) := rfl
theorem kBox_pointer {t : TypeId} {p : Option Addr} : kBox t h Q (.pointer p) = Q (.pointer (some ⟨h.next, 0, none⟩)) (h.push (.row [.pointer p] t (.rw 0 []))) := rfl
theorem kBox_slice {t : TypeId} {a : Option Addr} {l c : Nat} : kBox t h Q (.slice a l c) = Q (.pointer (some ⟨h.next, 0, none⟩)) (h.push (.row [.slice a l c] t (.rw 0 []))) := rfl
theorem P_box {t : TypeId} {x : Operand} : WpP C ⟨d, .box t x, ty, p, af, g⟩ fr h Q = onSome (ev1 fr x) (kBox t h Q) := by
  rw [propext (WpP_new rfl)]; show onSome _ _ = _; simp only [evNew, onSome_bind]
  congr 1; funext v
  unfold kBox
  cases boxable v with
  | true => simp only [cond_true, onSome_some]
  | false => simp [onSome]
theorem P_makeMap {t : TypeId} {kt et : TypeId} (ht : tMap C.P t = some (kt, et)) : WpP C ⟨d, .makeMap t none, ty, p, af, g⟩ fr h Q = Q (.map (some h.next)) (h.push (.map [] 0)) := by
  rw [propext (WpP_new rfl)]; show onSome _ _ = _; simp only [evNew, ht, Option.isSome_some, Option.isNone_none, Bool.and_self, cond_true, onSome_some]
theorem P_buildSlice {t : TypeId} {n : Nat} {ps : Array (Nat × Operand)} : WpP C ⟨d, .buildSlice t n ps, ty, p, af, g⟩ fr h Q = onSome (evNew C.P fr ⟨d, .buildSlice t n ps, ty, p, af, g⟩) (kNew h Q) := by
  rw [propext (WpP_new rfl)]; rfl
theorem P_makeSlice {t : TypeId} {l c : Operand} : WpP C ⟨d, .makeSlice t l c, ty, p, af, g⟩ fr h Q = onSome (evNew C.P fr ⟨d, .makeSlice t l c, ty, p, af, g⟩) (kNew h Q) := by
  rw [propext (WpP_new rfl)]; rfl
def kHp (Q : Value → Hp → Prop) (h : Hp) : Prop := Q undef h
theorem kHp_eq : kHp Q h = Q undef h := rfl
def kStore2 (P : Program) (t : TypeId) (a : Value) (h : Hp) (Q : Value → Hp → Prop) (v : Value) : Prop := onSome (evStore P t a v h) (kHp Q)
theorem kStore2_eq {P : Program} {t : TypeId} {a v : Value} : kStore2 P t a h Q v = onSome (evStore P t a v h) (kHp Q) := rfl
def kStore (P : Program) (t : TypeId) (x : Operand) (fr : Fr) (h : Hp) (Q : Value → Hp → Prop) (a : Value) : Prop := onSome (ev1 fr x) (kStore2 P t a h Q)
theorem kStore_eq {P : Program} {t : TypeId} {x : Operand} {a : Value} : kStore P t x fr h Q a = onSome (ev1 fr x) (kStore2 P t a h Q) := rfl
theorem P_store {t : TypeId} {a x : Operand} : WpP C ⟨d, .store t a x, ty, p, af, g⟩ fr h Q = onSome (ev1 fr a) (kStore C.P t x fr h Q) := by
  rw [P_any ((ev1 fr a).bind fun a => (ev1 fr x).bind fun v => (evStore C.P t a v h).map fun h => (undef, h)) (fun call => rfl)]
  simp only [onSome_bind, onSome_map]
  rfl
def kMu3 (P : Program) (t : TypeId) (a b : Value) (h : Hp) (Q : Value → Hp → Prop) (v : Value) : Prop := onSome (evMapUpdate P t a b v h) (kHp Q)
theorem kMu3_eq {P : Program} {t : TypeId} {a b v : Value} : kMu3 P t a b h Q v = onSome (evMapUpdate P t a b v h) (kHp Q) := rfl
def kMu2 (P : Program) (t : TypeId) (x : Operand) (a : Value) (fr : Fr) (h : Hp) (Q : Value → Hp → Prop) (b : Value) : Prop := onSome (ev1 fr x) (kMu3 P t a b h Q)
theorem kMu2_eq {P : Program} {t : TypeId} {x : Operand} {a b : Value} : kMu2 P t x a fr h Q b = onSome (ev1 fr x) (kMu3 P t a b h Q) := rfl
def kMu (P : Program) (t : TypeId) (k x : Operand) (fr : Fr) (h : Hp) (Q : Value → Hp → Prop) (a : Value) : Prop := onSome (ev1 fr k) (kMu2 P t x a fr h Q)
theorem kMu_eq {P : Program} {t : TypeId} {k x : Operand} {a : Value} : kMu P t k x fr h Q a = onSome (ev1 fr k) (kMu2 P t x a fr h Q) := rfl
theorem P_mapUpdate {t : TypeId} {m k x : Operand} : WpP C ⟨d, .mapUpdate t m k x, ty, p, af, g⟩ fr h Q = onSome (ev1 fr m) (kMu C.P t k x fr h Q) := by
  rw [P_any ((ev1 fr m).bind fun m => (ev1 fr k).bind fun k => (ev1 fr x).bind fun x => (evMapUpdate C.P t m k x h).map fun h => (undef, h)) (fun call => rfl)]
  simp only [onSome_bind, onSome_map]
  rfl
theorem P_insert {t : TypeId} {m k x : Operand} : WpP C ⟨d, .insert t m k x, ty, p, af, g⟩ fr h Q = onSome (ev1 fr m) (kMu C.P t k x fr h Q) := by
  rw [P_any ((ev1 fr m).bind fun m => (ev1 fr k).bind fun k => (ev1 fr x).bind fun x => (evMapUpdate C.P t m k x h).map fun h => (undef, h)) (fun call => rfl)]
  simp only [onSome_bind, onSome_map]
  rfl
def kDel2 (P : Program) (t : TypeId) (a : Value) (h : Hp) (Q : Value → Hp → Prop) (v : Value) : Prop := onSome (evDelete P t a v h) (kHp Q)
theorem kDel2_eq {P : Program} {t : TypeId} {a v : Value} : kDel2 P t a h Q v = onSome (evDelete P t a v h) (kHp Q) := rfl
def kDel (P : Program) (t : TypeId) (x : Operand) (fr : Fr) (h : Hp) (Q : Value → Hp → Prop) (a : Value) : Prop := onSome (ev1 fr x) (kDel2 P t a h Q)
theorem kDel_eq {P : Program} {t : TypeId} {x : Operand} {a : Value} : kDel P t x fr h Q a = onSome (ev1 fr x) (kDel2 P t a h Q) := rfl
theorem P_delete {t u : TypeId} {m k : Operand} : WpP C ⟨d, .call ⟨.builtin .delete, #[m, k], #[t, u]⟩, ty, p, af, g⟩ fr h Q = onSome (ev1 fr m) (kDel C.P t k fr h Q) := by
  rw [P_any ((ev1 fr m).bind fun m => (ev1 fr k).bind fun k => (evDelete C.P t m k h).map fun h => (.tuple #[], h)) (fun call => rfl)]
  simp only [onSome_bind, onSome_map]
  rfl
def kApp2 (P : Program) (t : TypeId) (a : Value) (h : Hp) (Q : Value → Hp → Prop) (v : Value) : Prop := onSome (evAppend P t a v h) (kPair Q)
theorem kApp2_eq {P : Program} {t : TypeId} {a v : Value} : kApp2 P t a h Q v = onSome (evAppend P t a v h) (kPair Q) := rfl
def kApp (P : Program) (t : TypeId) (x : Operand) (fr : Fr) (h : Hp) (Q : Value → Hp → Prop) (a : Value) : Prop := onSome (ev1 fr x) (kApp2 P t a h Q)
theorem kApp_eq {P : Program} {t : TypeId} {x : Operand} {a : Value} : kApp P t x fr h Q a = onSome (ev1 fr x) (kApp2 P t a h Q) := rfl
theorem P_append {t u e : TypeId} {s x : Operand} (hu : C.P.underlying u = some (.slice e)) : WpP C ⟨d, .call ⟨.builtin .append, #[s, x], #[t, u]⟩, ty, p, af, g⟩ fr h Q = onSome (ev1 fr s) (kApp C.P t x fr h Q) := by
  rw [P_any ((ev1 fr s).bind fun s => (ev1 fr x).bind fun x => evAppend C.P t s x h) (fun call => by
    show evEffCall C.P call fr ⟨.builtin .append, #[s, x], #[t, u]⟩ h = _
    simp only [evEffCall, hu])]
  simp only [onSome_bind]
  rfl
def kCopy2 (P : Program) (t : TypeId) (a : Value) (h : Hp) (Q : Value → Hp → Prop) (v : Value) : Prop := onSome (evCopy P t a v h) (kPair Q)
theorem kCopy2_eq {P : Program} {t : TypeId} {a v : Value} : kCopy2 P t a h Q v = onSome (evCopy P t a v h) (kPair Q) := rfl
def kCopy (P : Program) (t : TypeId) (x : Operand) (fr : Fr) (h : Hp) (Q : Value → Hp → Prop) (a : Value) : Prop := onSome (ev1 fr x) (kCopy2 P t a h Q)
theorem kCopy_eq {P : Program} {t : TypeId} {x : Operand} {a : Value} : kCopy P t x fr h Q a = onSome (ev1 fr x) (kCopy2 P t a h Q) := rfl
theorem P_lookup {t : TypeId} {x i : Operand} {ok : Bool} : WpP C ⟨d, .lookup t x i ok, ty, p, af, g⟩ fr h Q = onSome (ev1 fr x) (kTwo i (fun a b => evLookup C.P t a b ok h) fr h Q) := by
  rw [propext (WpP_read rfl)]
  show onSome _ _ = _
  unfold evReadOrPure
  simp only [evRead, evPure]
  have hr : onSome (ev1 fr x) (kTwo i (fun a b => evLookup C.P t a b ok h) fr h Q) = onSome ((ev1 fr x).bind fun a => (ev1 fr i).bind fun b => evLookup C.P t a b ok h) (at' Q h) := by simp only [onSome_bind]; rfl
  rw [hr]
  cases ((ev1 fr x).bind fun a => (ev1 fr i).bind fun b => evLookup C.P t a b ok h) <;> rfl
end
def noReads (P : Program) (ops : Array Oper) : Bool := (sched P ops == List.range ops.size) && ops.toList.all fun o => !(kindOf P o == .read)
theorem trc_noReads {P : Program} {call : CallF} {ops : Array Oper} : ∀ (l : List Oper) (L : List Nat) (s : Trc), L.map (fun j => ops[j]?) = l.map some → (∀ o ∈ l, kindOf P o ≠ .read) →
    ∀ fr' h', (evOps P call ops l s.fr s.h = some (fr', h') ↔ ∃ s', trc P call ops L s = some s' ∧ s'.fr = fr' ∧ s'.h = h' ∧ s'.rs = s.rs)
  | [], L, s, hL, _, fr', h' => by
    have : L = [] := by simpa using hL
    subst this
    simp only [evOps, trc, Option.some.injEq, Prod.mk.injEq]
    exact ⟨fun ⟨a, b⟩ => ⟨s, rfl, a, b, rfl⟩, fun ⟨s', e, a, b, _⟩ => by subst e; exact ⟨a, b⟩⟩
  | o :: l, [], s, hL, _, fr', h' => by simp at hL
  | o :: l, j :: L, s, hL, hk, fr', h' => by
    simp only [List.map_cons, List.cons.injEq] at hL
    have ih := fun s => trc_noReads (call := call) l L s hL.2 (fun o ho => hk o (List.mem_cons_of_mem _ ho)) fr' h'
    have hko := hk o (List.mem_cons_self ..)
    unfold evOps trc trcStep
    rw [hL.1]
    simp only
    cases hw : evWanted ops s.fr o with
    | none => simp
    | some b =>
      cases b with
      | false =>
        simp only
        cases hq : (kindOf P o == Kd.eff) with
        | true => simp only [cond_true]; exact ih { fr := put s.fr o.dst undef, h := s.h, done := j :: s.done, bs := (j :: s.done, s.h) :: s.bs, rs := s.rs }
        | false => simp only [cond_false]; exact ih { s with fr := put s.fr o.dst undef }
      | true =>
        simp only
        cases he : evOp P call s.fr o s.h with
        | none => simp
        | some r =>
          obtain ⟨v, h1⟩ := r
          simp only
          cases hq : kindOf P o with
          | read => exact absurd hq hko
          | pure => exact ih { s with fr := put s.fr o.dst v, h := h1 }
          | new => exact ih { s with fr := put s.fr o.dst v, h := h1 }
          | eff => exact ih { fr := put s.fr o.dst v, h := h1, done := j :: s.done, bs := (j :: s.done, h1) :: s.bs, rs := s.rs }
theorem trc_rs {P : Program} {call : CallF} {ops : Array Oper} (hk : ∀ o ∈ ops.toList, kindOf P o ≠ .read) : ∀ {L : List Nat} {s s' : Trc}, trc P call ops L s = some s' → s'.rs = s.rs
  | [], s, s', e => by simp only [trc, Option.some.injEq] at e; rw [e]
  | j :: L, s, s', e => by
    unfold trc at e
    split at e
    · rename_i s1 h1
      rw [trc_rs hk e]
      unfold trcStep at h1
      split at h1
      · cases h1
      · rename_i o ho
        have hko := hk o (by rw [Array.getElem?_eq_some_iff] at ho; obtain ⟨hj, rfl⟩ := ho; simp)
        split at h1
        · cases h1
        · cases hq : (kindOf P o == Kd.eff) with
          | true => rw [hq] at h1; simp only [cond_true, Option.some.injEq] at h1; rw [← h1]
          | false => rw [hq] at h1; simp only [cond_false, Option.some.injEq] at h1; rw [← h1]
        · split at h1
          · cases h1
          · cases hq : kindOf P o <;> rw [hq] at h1 <;> simp only [Option.some.injEq] at h1
            case read => exact absurd hq hko
            all_goals rw [← h1]
    · cases e
theorem Wp_drawText {i : Nat} {ops : Array Oper} {fr : Fr} {h : Hp} {Q : Ex → Fr → Hp → Prop} (hn : noReads C.P ops = true) :
    Wp C (.region i ops true) fr h Q = WpO C ops ops.toList fr h (doneP Q) := by
  unfold noReads at hn
  simp only [Bool.and_eq_true, beq_iff_eq, List.all_eq_true, Bool.not_eq_true', beq_eq_false_iff_ne] at hn
  obtain ⟨h1, h2⟩ := hn
  rw [Wp_draw h1]
  have hL : (List.range ops.size).map (fun j => ops[j]?) = ops.toList.map some := by
    apply List.ext_getElem?
    intro k
    simp only [List.getElem?_map, Array.getElem?_toList]
    by_cases hk : k < ops.size
    · rw [List.getElem?_range hk]
      simp [Array.getElem?_eq_getElem hk]
    · rw [List.getElem?_eq_none (by simpa using hk), Array.getElem?_eq_none (by omega)]
      rfl
  refine propext ⟨fun ⟨n, s', e, hr, q⟩ => ?_, fun ⟨n, fr', h', e, q⟩ => ?_⟩
  · obtain ⟨a, b⟩ : s'.fr = s'.fr ∧ s'.h = s'.h := ⟨rfl, rfl⟩
    have := (trc_noReads (call := evCall C n) ops.toList (List.range ops.size) ⟨fr, h, [], [([], h)], []⟩ hL h2 s'.fr s'.h).2
    refine ⟨n, s'.fr, s'.h, this ⟨s', e, rfl, rfl, ?_⟩, q⟩
    exact trc_rs h2 e
  · obtain ⟨s', e1, rfl, rfl, e2⟩ := (trc_noReads (call := evCall C n) ops.toList (List.range ops.size) ⟨fr, h, [], [([], h)], []⟩ hL h2 fr' h').1 e
    refine ⟨n, s', e1, ?_, q⟩
    unfold readsB readsOk
    rw [e2]
    rfl
end Go.Ev
namespace Go.Ev
open Go
set_option linter.unusedSimpArgs false
set_option linter.unusedVariables false
variable {C : Ctx}
def Meets (C : Ctx) (f : FuncId) (args : List Value) (h : Hp) (Post : Value → Hp → Prop) : Prop := ∃ v h', Ret C f args h v h' ∧ Post v h'
theorem Meets.mono {f : FuncId} {args : List Value} {h : Hp} {P Q : Value → Hp → Prop} (s : Meets C f args h P) (k : ∀ v h', P v h' → Q v h') : Meets C f args h Q := by
  obtain ⟨v, h', r, p⟩ := s; exact ⟨v, h', r, k _ _ p⟩
theorem callP_meets {f : FuncId} {args : List Value} {h : Hp} {P Q : Value → Hp → Prop} (s : Meets C f args h P) (k : ∀ v h', P v h' → Q v h') : callP C f h Q args := s.mono k
theorem Meets.ret {f : FuncId} {args : List Value} {h h' : Hp} {v : Value} (s : Meets C f args h fun u k => u = v ∧ k = h') : Ret C f args h v h' := by
  obtain ⟨v, h', r, rfl, rfl⟩ := s; exact r
theorem Meets.call {f : FuncId} {args : List Value} {h h' : Hp} {v : Value} (s : Meets C f args h fun u k => u = v ∧ k = h') (Q : Value → Hp → Prop) : callP C f h Q args = Q v h' := callP_of s.ret
def doneR (Post : Value → Hp → Prop) (h : Hp) (vs : List Value) : Prop := Post (tupled vs) h
def endP (C : Ctx) (rs : List ResultVar) (Post : Value → Hp → Prop) : Ex → Fr → Hp → Prop
  | .exit _, _, _ => False
  | .norm, fr, h => onSome (evResults C.P fr h rs) (doneR Post h)
  | .ret, fr, h => onSome (evResults C.P fr h rs) (doneR Post h)
theorem Meets.mk {f : FuncId} {fn : Func} {c : Code} {rs : List ResultVar} {args : List Value} {h : Hp} {Post : Value → Hp → Prop} (hS : C.S f = none) (hm : C.mask.testBit f = true) (hf : C.P.funcs[f]? = some fn) (hc : fn.body = some c)
    (hr : fn.results.toList = rs) (w : Wp C c (Tr.ofList args 0 .e) h (endP C rs Post)) : Meets C f args h Post := by
  obtain ⟨n, e, fr, h1, h2, h3⟩ := w
  subst hr
  cases e with
  | exit i => exact h3.elim
  | norm =>
    obtain ⟨vs, h4, h5⟩ := h3
    exact ⟨tupled vs, h1, ⟨n + 1, by unfold evCall; rw [hS]; simp only [hm, Bool.not_true, cond_false, hf, hc, h2, h4, Option.map_some]⟩, h5⟩
  | ret =>
    obtain ⟨vs, h4, h5⟩ := h3
    exact ⟨tupled vs, h1, ⟨n + 1, by unfold evCall; rw [hS]; simp only [hm, Bool.not_true, cond_false, hf, hc, h2, h4, Option.map_some]⟩, h5⟩
section
variable {rs : List ResultVar} {Post : Value → Hp → Prop} {fr : Fr} {h : Hp}
theorem endP_ret : endP C rs Post .ret fr h = onSome (evResults C.P fr h rs) (doneR Post h) := rfl
theorem endP_norm : endP C rs Post .norm fr h = onSome (evResults C.P fr h rs) (doneR Post h) := rfl
theorem doneR_eq {vs : List Value} : doneR Post h vs = Post (tupled vs) h := rfl
theorem evResults_nil {P : Program} : evResults P fr h [] = some [] := rfl
theorem evResults_cons {P : Program} {x : ResultVar} {l : List ResultVar} : evResults P fr h (x :: l) = (evResult P fr h x).bind fun v => (evResults P fr h l).bind fun vs => some (v :: vs) := rfl
theorem evResult_tmp {P : Program} {t : Tmp} : evResult P fr h (.tmp t) = fr.get t := rfl
theorem evResult_cell {P : Program} {a : Tmp} {t : TypeId} : evResult P fr h (.cell a t) = (fr.get a).bind fun v => evLoad P t v h := rfl
theorem tupled_one {v : Value} : tupled [v] = v := rfl
theorem tupled_nil : tupled [] = .tuple #[] := rfl
theorem tupled_two {u v : Value} {l : List Value} : tupled (u :: v :: l) = .tuple (u :: v :: l).toArray := rfl
end
section
variable {fr : Fr} {h : Hp} {Q : Ex → Fr → Hp → Prop} {a b : Code} {c : Bool}
theorem kCond2_by (t : c = true → Wp C a fr h Q) (f : c = false → Wp C b fr h Q) : kCond2 C a b fr h Q c := by cases c; exact f rfl; exact t rfl
theorem kWant_by {ops : Array Oper} {o : Oper} {l : List Oper} {Q : Fr → Hp → Prop} (t : c = true → kWant C ops o l fr h Q true) (f : c = false → kWant C ops o l fr h Q false) : kWant C ops o l fr h Q c := by cases c; exact f rfl; exact t rfl
theorem kPick_by {x y : Operand} {Q : Value → Hp → Prop} (t : c = true → kPick x y fr h Q (.bool true)) (f : c = false → kPick x y fr h Q (.bool false)) : kPick x y fr h Q (.bool c) := by cases c; exact f rfl; exact t rfl
end
theorem ev1_nils {fr : Fr} : ev1 fr (.const (.slice none 0 0)) = some (.slice none 0 0) := rfl
theorem ev1_nilp {fr : Fr} : ev1 fr (.const (.pointer none)) = some (.pointer none) := rfl
theorem ev1_nilm {fr : Fr} : ev1 fr (.const (.map none)) = some (.map none) := rfl
theorem evParts_nil {fr : Fr} : evParts fr [] = some [] := rfl
theorem evParts_cons {fr : Fr} {i : Nat} {x : Operand} {l : List (Nat × Operand)} : evParts fr ((i, x) :: l) = (ev1 fr x).bind fun v => (evParts fr l).bind fun vs => some ((i, v) :: vs) := rfl
def kNot : Value → Option Value
  | .bool b => some (.bool !b)
  | _ => none
theorem kNot_eq {b : Bool} : kNot (.bool b) = some (.bool !b) := rfl
theorem P_not {d : Option Tmp} {ty t : TypeId} {p : String} {af : Array Edge} {g : Option (Nat × Bool)} {fr : Fr} {h : Hp} {Q : Value → Hp → Prop} {x : Operand} : WpP C ⟨d, .unOp .not t x, ty, p, af, g⟩ fr h Q = onSome (ev1 fr x) (kOne kNot h Q) := by
  rw [P_unOp]
  congr 1
  funext v
  simp only [kOne_eq]
  congr 1
  cases v <;> first | rfl | (simp only [kNot]; cases hs : scal _ <;> simp only [cond_true, cond_false]; try rfl)
theorem ba_empty : (⟨#[]⟩ : ByteArray) = ByteArray.empty := rfl
theorem asW_undef {w : Bool} : asW w undef = some false := rfl
theorem scal_int {k : IntKind} {n : Int} : scal (.int k n) = true := rfl
def loopP (I : Nat → Fr → Hp → Prop) (k : Nat) (Q : Ex → Fr → Hp → Prop) : Ex → Fr → Hp → Prop
  | .norm, fr, h => ∃ j, j < k ∧ I j fr h
  | e, fr, h => Q e fr h
section
variable {I : Nat → Fr → Hp → Prop} {k : Nat} {Q : Ex → Fr → Hp → Prop} {fr : Fr} {h : Hp} {i : Nat}
theorem loopP_norm : loopP I k Q .norm fr h = ∃ j, j < k ∧ I j fr h := rfl
theorem loopP_exit : loopP I k Q (.exit i) fr h = Q (.exit i) fr h := rfl
theorem loopP_ret : loopP I k Q .ret fr h = Q .ret fr h := rfl
theorem Wp_loop {a : Code} (I : Nat → Fr → Hp → Prop) (k : Nat) (start : I k fr h) (step : ∀ k fr h, I k fr h → Wp C a fr h (loopP I k Q)) : Wp C (.loop a) fr h Q :=
  Wp.loop I (fun k fr h i => (step k fr h i).mono fun e fr h q => by cases e <;> exact q) k start
end
theorem asW_true {b : Bool} : asW true (.bool b) = some b := by cases b <;> rfl
theorem asW_false {b : Bool} : asW false (.bool b) = some !b := by cases b <;> rfl
namespace Hp
theorem get_set_self (h : Hp) (b : Nat) (o : Ob) : (h.set b o).get b = some o := by rw [get_set, if_pos rfl]
theorem get_set_ne {h : Hp} {b : Nat} {o : Ob} {c : Nat} (e : c ≠ b) : (h.set b o).get c = h.get c := by rw [get_set, if_neg e]
theorem get_push_self (h : Hp) (o : Ob) : (h.push o).get h.next = some o := by rw [get_push, if_pos rfl]
theorem get_push_lt {h : Hp} {o : Ob} {c : Nat} (e : c < h.next) : (h.push o).get c = h.get c := by rw [get_push, if_neg (by omega)]
end Hp
theorem evLoad_ptr {P : Program} {t : TypeId} {b o : Nat} {h : Hp} : evLoad P t (.pointer (some ⟨b, o, none⟩)) h = (rowOf h b).bind fun cs => evPart P t cs o := rfl
theorem rowOf_rw {h : Hp} {b : Nat} {cs : List Value} {e : TypeId} {x : Nat} {l : List Nat} (g : h.get b = some (.row cs e (.rw x l))) : rowOf h b = some cs := by unfold rowOf; rw [g]
theorem rowOf_ro {h : Hp} {b : Nat} {cs : List Value} {e : TypeId} (g : h.get b = some (.row cs e .ro)) : rowOf h b = some cs := by unfold rowOf; rw [g]
theorem rowOf_eq {h k : Hp} {b : Nat} (e : h.get b = k.get b) : rowOf h b = rowOf k b := by unfold rowOf; rw [e]
theorem rowOf_get {h : Hp} {b : Nat} {cs : List Value} {e : TypeId} {st : St} (g : h.get b = some (.row cs e st)) (d : notDead st) : rowOf h b = some cs := by
  unfold rowOf; rw [g]; cases st <;> first | rfl | exact d.elim
theorem evPart_cell {P : Program} {t : TypeId} {cs : List Value} {o : Nat} (ht : tAgg P t = some false) : evPart P t cs o = cs[o]? := by unfold evPart; rw [ht]
theorem evPart_agg {P : Program} {t : TypeId} {cs : List Value} {o n : Nat} (ht : tAgg P t = some true) (hn : tSize P t = some n) : evPart P t cs o = bif decide (o + n ≤ cs.length) then some (.agg ((cs.drop o).take n).toArray) else none := by
  unfold evPart; rw [ht, hn]; rfl
def Keep (h h' : Hp) : Prop := h.next ≤ h'.next ∧ ∀ b, b < h.next → h'.get b = h.get b
theorem Keep.refl (h : Hp) : Keep h h := ⟨Nat.le_refl _, fun _ _ => rfl⟩
theorem Keep.trans {a b c : Hp} (x : Keep a b) (y : Keep b c) : Keep a c := ⟨Nat.le_trans x.1 y.1, fun k hk => (y.2 k (Nat.lt_of_lt_of_le hk x.1)).trans (x.2 k hk)⟩
theorem Keep.push (h : Hp) (o : Ob) : Keep h (h.push o) := ⟨Nat.le_succ _, fun _ hb => Hp.get_push_lt hb⟩
theorem Keep.set {h h' : Hp} (k : Keep h h') {b : Nat} {o : Ob} (hb : h.next ≤ b) : Keep h (h'.set b o) := ⟨k.1, fun c hc => by rw [Hp.get_set_ne (by omega)]; exact k.2 c hc⟩
theorem Keep.pushed {h h' : Hp} (k : Keep h h') {o : Ob} : Keep h (h'.push o) := k.trans (Keep.push _ _)
theorem evr : type_of% @Wp_seq ∧ type_of% @Wp_region ∧ type_of% @WpO_cons' ∧ type_of% @WpO_nil' ∧ type_of% @wanted_none ∧ type_of% @wanted_some ∧ type_of% @kWant_true ∧ type_of% @kWant_false ∧
    type_of% @P_move ∧ type_of% @P_assign ∧ type_of% @P_pick ∧ type_of% @kPick_true ∧ type_of% @kPick_false ∧ type_of% @kTwo_eq ∧ type_of% @kTwo2_eq ∧ type_of% @kOne_eq ∧ type_of% @at_eq ∧ type_of% @ev1_bool ∧ type_of% @ev1_tmp ∧ type_of% @ev1_int ∧ type_of% @ev1_string ∧
    type_of% @stepP_some ∧ type_of% @stepP_none ∧ type_of% @doneP_eq ∧ type_of% @nextP_ret ∧ type_of% @nextP_exit ∧ type_of% @outP_norm ∧ type_of% @outP_ret ∧ type_of% @outP_same ∧ type_of% @Wp_cond ∧ type_of% @kCond_eq ∧ type_of% @kCond2_true ∧ type_of% @kCond2_false ∧
    type_of% @asW_true ∧ type_of% @asW_false ∧ type_of% @asW_tuple ∧ type_of% @Wp_ret ∧ type_of% @Wp_skip ∧ type_of% @Wp_exit ∧ type_of% @Wp_block ∧ type_of% @P_index ∧ type_of% @P_indexAddr ∧ type_of% @P_not ∧ type_of% @kNot_eq ∧ type_of% @scal_int ∧ type_of% @P_field ∧ type_of% @P_fieldAddr ∧ type_of% @P_load ∧ type_of% @P_call ∧
    type_of% @P_nilCheck ∧ type_of% @P_extract ∧ type_of% @kExtract_eq ∧ type_of% @P_build ∧ type_of% @kBuild_eq ∧ type_of% @P_box ∧ type_of% @kBox_agg ∧ type_of% @kBox_int ∧ type_of% @kBox_bool ∧ type_of% @kBox_string ∧ type_of% @kBox_pointer ∧ type_of% @kBox_slice ∧ type_of% @P_store ∧ type_of% @kStore_eq ∧ type_of% @kStore2_eq ∧ type_of% @kHp_eq ∧ type_of% @P_lookup ∧ type_of% @P_mapUpdate ∧ type_of% @kMu_eq ∧ type_of% @kMu2_eq ∧ type_of% @kMu3_eq ∧ type_of% @P_delete ∧ type_of% @kDel_eq ∧ type_of% @kDel2_eq ∧
    type_of% @kNew_eq ∧ type_of% @kPair_eq ∧ type_of% @kApp_eq ∧ type_of% @kApp2_eq ∧ type_of% @kCopy_eq ∧ type_of% @kCopy2_eq ∧ type_of% @evs_nil ∧ type_of% @evs_cons ∧ type_of% @ev1_func ∧
    type_of% @endP_ret ∧ type_of% @endP_norm ∧ type_of% @doneR_eq ∧ type_of% @evResults_nil ∧ type_of% @evResults_cons ∧ type_of% @evResult_tmp ∧ type_of% @evResult_cell ∧ type_of% @tupled_one ∧ type_of% @tupled_nil ∧ type_of% @tupled_two ∧ type_of% @loopP_norm ∧ type_of% @loopP_exit ∧ type_of% @loopP_ret ∧ type_of% @ev1_nils ∧ type_of% @ev1_nilp ∧ type_of% @ev1_nilm ∧ type_of% @evParts_nil ∧ type_of% @evParts_cons ∧ type_of% @ba_empty ∧ type_of% @asW_undef :=
  ⟨@Wp_seq, @Wp_region, @WpO_cons', @WpO_nil', @wanted_none, @wanted_some, @kWant_true, @kWant_false, @P_move, @P_assign, @P_pick, @kPick_true, @kPick_false, @kTwo_eq, @kTwo2_eq, @kOne_eq, @at_eq, @ev1_bool, @ev1_tmp, @ev1_int, @ev1_string,
   @stepP_some, @stepP_none, @doneP_eq, @nextP_ret, @nextP_exit, @outP_norm, @outP_ret, @outP_same, @Wp_cond, @kCond_eq, @kCond2_true, @kCond2_false, @asW_true, @asW_false, @asW_tuple, @Wp_ret, @Wp_skip, @Wp_exit, @Wp_block, @P_index, @P_indexAddr, @P_not, @kNot_eq, @scal_int, @P_field, @P_fieldAddr, @P_load, @P_call,
   @P_nilCheck, @P_extract, @kExtract_eq, @P_build, @kBuild_eq, @P_box, @kBox_agg, @kBox_int, @kBox_bool, @kBox_string, @kBox_pointer, @kBox_slice, @P_store, @kStore_eq, @kStore2_eq, @kHp_eq, @P_lookup, @P_mapUpdate, @kMu_eq, @kMu2_eq, @kMu3_eq, @P_delete, @kDel_eq, @kDel2_eq, @kNew_eq, @kPair_eq, @kApp_eq, @kApp2_eq, @kCopy_eq, @kCopy2_eq, @evs_nil, @evs_cons, @ev1_func,
   @endP_ret, @endP_norm, @doneR_eq, @evResults_nil, @evResults_cons, @evResult_tmp, @evResult_cell, @tupled_one, @tupled_nil, @tupled_two, @loopP_norm, @loopP_exit, @loopP_ret, @ev1_nils, @ev1_nilp, @ev1_nilm, @evParts_nil, @evParts_cons, @ba_empty, @asW_undef⟩
end Go.Ev
namespace Go.Ev
open Go
set_option linter.unusedSimpArgs false
set_option linter.unusedVariables false
structure KR (b : Bool) : Prop where
  eq : b = true
def ordB (P : Program) (ops : Array Oper) : Bool :=
  let ms := Region.before ops
  (sched P ops == List.range ops.size) && ops.toList.all (fun o => !(kindOf P o == .new)) &&
  (List.range ops.size).all fun i => !(kindAt P ops i == .read) || (List.range ops.size).all fun e => !(kindAt P ops e == .eff) || (bif decide (e < i) then bit ms i e else bit ms e i)
section
variable {P : Program} {ops : Array Oper} {call : CallF}
structure OrdInv (P : Program) (ops : Array Oper) (a : Nat) (s : Trc) : Prop where
  dn : ∀ e ∈ s.done, e < a ∧ kindAt P ops e = .eff
  lt : ∀ d h, (d, h) ∈ s.bs → ∀ e ∈ d, e < a
  bs : ∀ d h, (d, h) ∈ s.bs → (d = s.done ∧ h = s.h) ∨ ∃ e ∈ s.done, e ∉ d
  ri : ∀ i fr v, (i, fr, v) ∈ s.rs → i < a ∧ kindAt P ops i = .read
  rs : ∀ i fr v, (i, fr, v) ∈ s.rs → ∀ d h, (d, h) ∈ s.bs → adm (Region.before ops) ((List.range ops.size).filter fun j => kindAt P ops j == .eff) i d = true → ∃ o, ops[i]? = some o ∧ evReadOrPure P fr o h = some v
theorem kindAt_of {a : Nat} {o : Oper} (ho : ops[a]? = some o) : kindAt P ops a = kindOf P o := by unfold kindAt; rw [ho]
theorem OrdInv.pure {a : Nat} {s : Trc} (I : OrdInv P ops a s) (fr : Fr) : OrdInv P ops (a + 1) { s with fr := fr } :=
  ⟨fun e he => ⟨by have := (I.dn e he).1; omega, (I.dn e he).2⟩, fun d h hd e he => by have := I.lt d h hd e he; omega, I.bs, fun i f v hm => ⟨by have := (I.ri i f v hm).1; omega, (I.ri i f v hm).2⟩, I.rs⟩
theorem OrdInv.eff {a : Nat} {s : Trc} (I : OrdInv P ops a s) (hk : kindAt P ops a = .eff) (ha : a < ops.size)
    (hs : ∀ i, i < a → kindAt P ops i = .read → bit (Region.before ops) a i = true) (fr : Fr) (h1 : Hp) :
    OrdInv P ops (a + 1) { fr := fr, h := h1, done := a :: s.done, bs := (a :: s.done, h1) :: s.bs, rs := s.rs } := by
  refine ⟨fun e he => ?_, fun d h hd e he => ?_, fun d h hd => ?_, fun i f v hm => ⟨by have := (I.ri i f v hm).1; omega, (I.ri i f v hm).2⟩, fun i f v hm d h hd had => ?_⟩
  · rcases List.mem_cons.1 he with rfl | he
    · exact ⟨by omega, hk⟩
    · exact ⟨by have := (I.dn e he).1; omega, (I.dn e he).2⟩
  · rcases List.mem_cons.1 hd with hd | hd
    · simp only [Prod.mk.injEq] at hd
      obtain ⟨rfl, rfl⟩ := hd
      rcases List.mem_cons.1 he with rfl | he
      · omega
      · have := (I.dn e he).1; omega
    · have := I.lt d h hd e he; omega
  · rcases List.mem_cons.1 hd with hd | hd
    · simp only [Prod.mk.injEq] at hd
      exact .inl hd
    · exact .inr ⟨a, List.mem_cons_self .., fun hm => by have := I.lt d h hd a hm; omega⟩
  · rcases List.mem_cons.1 hd with hd | hd
    · simp only [Prod.mk.injEq] at hd
      obtain ⟨rfl, rfl⟩ := hd
      obtain ⟨h1, h2⟩ := I.ri i f v hm
      have hb := hs i h1 h2
      unfold adm at had
      simp only [Bool.and_eq_true, List.all_eq_true] at had
      have := had.2 a (List.mem_cons_self ..)
      rw [hb] at this; cases this
    · exact I.rs i f v hm d h hd had
theorem OrdInv.read {a : Nat} {s : Trc} (I : OrdInv P ops a s) {o : Oper} (ho : ops[a]? = some o) (hk : kindAt P ops a = .read) (ha : a < ops.size)
    (hs : ∀ e, e < a → kindAt P ops e = .eff → bit (Region.before ops) a e = true) {v : Value} (hv : evReadOrPure P s.fr o s.h = some v) (fr : Fr) :
    OrdInv P ops (a + 1) { s with fr := fr, rs := (a, s.fr, v) :: s.rs } := by
  refine ⟨fun e he => ⟨by have := (I.dn e he).1; omega, (I.dn e he).2⟩, fun d h hd e he => by have := I.lt d h hd e he; omega, I.bs, fun i f u hm => ?_, fun i f u hm d h hd had => ?_⟩
  · rcases List.mem_cons.1 hm with hm | hm
    · simp only [Prod.mk.injEq] at hm
      obtain ⟨rfl, rfl, rfl⟩ := hm
      exact ⟨by omega, hk⟩
    · exact ⟨by have := (I.ri i f u hm).1; omega, (I.ri i f u hm).2⟩
  · rcases List.mem_cons.1 hm with hm | hm
    · simp only [Prod.mk.injEq] at hm
      obtain ⟨rfl, rfl, rfl⟩ := hm
      rcases I.bs d h hd with ⟨_, rfl⟩ | ⟨e, he, hne⟩
      · exact ⟨o, ho, hv⟩
      · obtain ⟨h1, h2⟩ := I.dn e he
        have hb := hs e h1 h2
        unfold adm at had
        simp only [Bool.and_eq_true, List.all_eq_true] at had
        have := had.1 e (List.mem_filter.2 ⟨List.mem_range.2 (by omega), by rw [h2]; rfl⟩)
        rw [hb] at this
        simp at this
        exact absurd this hne
    · exact I.rs i f u hm d h hd had
theorem ordB_spec (h : ordB P ops = true) : sched P ops = List.range ops.size ∧ (∀ o ∈ ops.toList, kindOf P o ≠ .new) ∧
    ∀ i e, i < ops.size → e < ops.size → kindAt P ops i = .read → kindAt P ops e = .eff → (e < i → bit (Region.before ops) i e = true) ∧ (i < e → bit (Region.before ops) e i = true) := by
  unfold ordB at h
  simp only [Bool.and_eq_true, beq_iff_eq, List.all_eq_true, Bool.or_eq_true, Bool.not_eq_true', beq_eq_false_iff_ne, List.mem_range] at h
  obtain ⟨⟨h1, h2⟩, h3⟩ := h
  refine ⟨h1, h2, fun i e hi he ki ke => ?_⟩
  rcases h3 i hi with h4 | h4
  · exact absurd ki h4
  · rcases h4 e he with h5 | h5
    · exact absurd ke h5
    · refine ⟨fun hlt => ?_, fun hlt => ?_⟩
      · rw [decide_eq_true hlt] at h5; exact h5
      · rw [decide_eq_false (by omega)] at h5; exact h5
theorem trc_ord (hB : ordB P ops = true) : ∀ (l : List Oper) (a : Nat) (s : Trc), ops.toList.drop a = l → OrdInv P ops a s →
    (match evOps P call ops l s.fr s.h with
    | some (fr', h') => ∃ s', trc P call ops (List.range' a l.length) s = some s' ∧ s'.fr = fr' ∧ s'.h = h' ∧ OrdInv P ops (a + l.length) s'
    | none => trc P call ops (List.range' a l.length) s = none)
  | [], a, s, _, I => ⟨s, rfl, rfl, rfl, I⟩
  | o :: l, a, s, hl, I => by
    obtain ⟨_, hN, hO⟩ := ordB_spec hB
    have ha : a < ops.size := by
      have : (ops.toList.drop a).length = l.length + 1 := by rw [hl]; rfl
      simp at this; omega
    have ho : ops[a]? = some o := by
      have : ops.toList[a]? = (ops.toList.drop a)[0]? := by simp
      rw [hl] at this; simpa using this
    have hl' : ops.toList.drop (a + 1) = l := by rw [← List.drop_drop, hl]; rfl
    have hmem : o ∈ ops.toList := by have := List.mem_of_getElem? (l := ops.toList) (i := a) (a := o) (by simpa using ho); exact this
    have ih := fun s I => trc_ord hB l (a + 1) s hl' I
    have hk : kindAt P ops a = kindOf P o := kindAt_of ho
    simp only [List.length_cons, List.range'_succ]
    unfold evOps trc trcStep
    rw [ho]
    simp only
    have fin : a + (l.length + 1) = a + 1 + l.length := by omega
    cases hw : evWanted ops s.fr o with
    | none => simp
    | some b =>
      cases b with
      | false =>
        simp only
        cases hq : (kindOf P o == Kd.eff) with
        | true =>
          simp only [cond_true]
          rw [fin]
          exact ih _ (I.eff (by rw [hk]; exact beq_iff_eq.1 hq) ha (fun i hi ki => (hO i a (by omega) ha ki (by rw [hk]; exact beq_iff_eq.1 hq)).2 hi) (put s.fr o.dst undef) s.h)
        | false => simp only [cond_false]; rw [fin]; exact ih _ (I.pure _)
      | true =>
        simp only
        cases he : evOp P call s.fr o s.h with
        | none => simp
        | some r =>
          obtain ⟨v, h1⟩ := r
          simp only
          rw [fin]
          cases hq : kindOf P o with
          | read =>
            have hv : evReadOrPure P s.fr o s.h = some v ∧ h1 = s.h := by
              unfold evOp at he; rw [hq] at he
              obtain ⟨u, e1, e2⟩ := Option.map_eq_some_iff.1 he
              simp only [Prod.mk.injEq] at e2
              obtain ⟨rfl, rfl⟩ := e2
              exact ⟨e1, rfl⟩
            obtain ⟨hv, rfl⟩ := hv
            exact ih _ (I.read ho (by rw [hk, hq]) ha (fun e h1 h2 => (hO a e ha (by omega) (by rw [hk, hq]) h2).1 h1) hv _)
          | pure =>
            have : h1 = s.h := by
              unfold evOp at he; rw [hq] at he
              obtain ⟨u, e1, e2⟩ := Option.map_eq_some_iff.1 he
              simp only [Prod.mk.injEq] at e2
              exact e2.2.symm
            subst this
            exact ih _ (I.pure _)
          | new => exact absurd hq (hN o hmem)
          | eff => exact ih _ (I.eff (by rw [hk, hq]) ha (fun i hi ki => (hO i a (by omega) ha ki (by rw [hk, hq])).2 hi) _ _)
theorem evDraw_ord (hB : ordB P ops = true) (n : Nat) (fr : Fr) (h : Hp) : evDraw P call n ops fr h = evOps P call ops ops.toList fr h := by
  obtain ⟨hS, _, _⟩ := ordB_spec hB
  have I0 : OrdInv P ops 0 ⟨fr, h, [], [([], h)], []⟩ :=
    ⟨fun _ he => (by cases he), fun d k hd e he => (by simp at hd; obtain ⟨rfl, _⟩ := hd; cases he), fun d k hd => (by simp at hd; exact .inl hd), fun _ _ _ hm => (by cases hm), fun _ _ _ hm => (by cases hm)⟩
  have key := trc_ord (call := call) hB ops.toList 0 ⟨fr, h, [], [([], h)], []⟩ (by simp) I0
  have hr : List.range' 0 ops.toList.length = List.range ops.size := by rw [List.range_eq_range']; simp
  rw [hr] at key
  unfold evDraw
  rw [hS]
  cases he : evOps P call ops ops.toList fr h with
  | none => simp only [he] at key; rw [key]
  | some r =>
    obtain ⟨fr', h'⟩ := r
    simp only [he] at key
    obtain ⟨s', e1, rfl, rfl, I⟩ := key
    rw [e1]
    simp only
    have : readsOk P ops ((List.range ops.size).filter fun j => kindAt P ops j == .eff) s' = true := by
      unfold readsOk
      rw [List.all_eq_true]
      rintro ⟨i, f, v⟩ hm
      rw [List.all_eq_true]
      rintro ⟨d, k⟩ hd
      simp only [Bool.or_eq_true, Bool.not_eq_true']
      cases hadm : adm (Region.before ops) ((List.range ops.size).filter fun j => kindAt P ops j == .eff) i d with
      | false => exact .inl rfl
      | true =>
        obtain ⟨o, h1, h2⟩ := I.rs i f v hm d k hd hadm
        right
        rw [h1]
        simp only [h2, veq_refl]
    rw [this]; rfl
end
theorem Wp_drawOrd {C : Ctx} {i : Nat} {ops : Array Oper} {fr : Fr} {h : Hp} {Q : Ex → Fr → Hp → Prop} (hn : KR (ordB C.P ops)) :
    Wp C (.region i ops true) fr h Q = WpO C ops ops.toList fr h (doneP Q) := by
  refine propext ⟨fun ⟨n, e, fr', h', e1, q⟩ => ?_, fun ⟨n, fr', h', e, q⟩ => ?_⟩
  · unfold evCode at e1
    simp only [cond_true, evDraw_ord hn.eq] at e1
    split at e1
    · rename_i fr1 h1 h2
      simp only [Option.some.injEq, Prod.mk.injEq] at e1
      obtain ⟨rfl, rfl, rfl⟩ := e1
      exact ⟨n, _, _, h2, q⟩
    · cases e1
  · refine ⟨n, .norm, fr', h', ?_, q⟩
    unfold evCode
    simp only [cond_true, evDraw_ord hn.eq, e]
end Go.Ev
namespace Go.Ev
open Go
set_option linter.unusedSimpArgs false
set_option linter.unusedVariables false
variable {C : Ctx}
def rowOb : Option Ob → Option (List Value)
  | some (.row _ _ .dead) => none
  | some (.row cs _ _) => some cs
  | _ => none
theorem rowOf_def (h : Hp) (b : Nat) : rowOf h b = rowOb (h.get b) := rfl
theorem rowOb_rw {cs : List Value} {e : TypeId} {x : Nat} {l : List Nat} : rowOb (some (.row cs e (.rw x l))) = some cs := rfl
theorem rowOb_ro {cs : List Value} {e : TypeId} : rowOb (some (.row cs e .ro)) = some cs := rfl
theorem Keep.row {h h' : Hp} (k : Keep h h') {b : Nat} (hb : b < h.next) : rowOf h' b = rowOf h b := rowOf_eq (k.2 b hb)
def cellAt (o : Nat) (cs : List Value) : Option Value := cs[o]?
def aggAt (o n : Nat) (cs : List Value) : Option Value := bif decide (o + n ≤ cs.length) then some (.agg ((cs.drop o).take n).toArray) else none
theorem L_loadC {t : TypeId} (ht : tAgg C.P t = some false) : ∀ b o h, evLoad C.P t (.pointer (some ⟨b, o, none⟩)) h = (rowOf h b).bind (cellAt o) := fun b o h => by
  rw [evLoad_ptr]; congr 1; funext cs; exact evPart_cell ht
theorem L_loadA {t : TypeId} {n : Nat} (ht : tAgg C.P t = some true) (hn : tSize C.P t = some n) : ∀ b o h, evLoad C.P t (.pointer (some ⟨b, o, none⟩)) h = (rowOf h b).bind (aggAt o n) := fun b o h => by
  rw [evLoad_ptr]; congr 1; funext cs; exact evPart_agg ht hn
theorem cellAt_eq {o : Nat} {cs : List Value} : cellAt o cs = cs[o]? := rfl
theorem aggAt_eq {o n : Nat} {cs : List Value} (h : o + n ≤ cs.length) : aggAt o n cs = some (.agg ((cs.drop o).take n).toArray) := by unfold aggAt; rw [decide_eq_true h]; rfl
def wrOb (h : Hp) (b o : Nat) (vs : List Value) : Option Ob → Option Hp
  | some (.row cs e (.rw base olds)) =>
    bif decide (o + vs.length ≤ cs.length) && vs.all isCell then
      bif decide (base ≤ o) then some (h.set b (.row (splice cs o vs) e (.rw base olds)))
      else some ((kill h olds).set b (.row (splice cs o vs) e (.rw 0 [])))
    else none
  | _ => none
theorem writeAt_def (h : Hp) (b o : Nat) (vs : List Value) : writeAt h b o vs = wrOb h b o vs (h.get b) := rfl
theorem L_store {t : TypeId} {n : Nat} (hn : tSize C.P t = some n) : ∀ b o v h, evStore C.P t (.pointer (some ⟨b, o, none⟩)) v h = bif Nat.beq n v.cells.size then writeAt h b o v.cells.toList else none := fun b o v h => by
  have e : (some n == some v.cells.size) = Nat.beq n v.cells.size := by rw [Bool.eq_iff_iff]; simp
  simp only [evStore, hn, e]
theorem cells_agg {cs : Array Value} : (Value.agg cs).cells = cs := rfl
theorem cells_bool {b : Bool} : (Value.bool b).cells = #[.bool b] := rfl
theorem cells_int {k : IntKind} {n : Int} : (Value.int k n).cells = #[.int k n] := rfl
theorem cells_string {s : ByteArray} : (Value.string s).cells = #[.string s] := rfl
theorem cells_pointer {p : Option Addr} : (Value.pointer p).cells = #[.pointer p] := rfl
theorem cells_slice {a : Option Addr} {l c : Nat} : (Value.slice a l c).cells = #[.slice a l c] := rfl
theorem cells_map {m : Option Nat} : (Value.map m).cells = #[.map m] := rfl
theorem isCell_bool {b : Bool} : isCell (.bool b) = true := rfl
theorem isCell_int {k : IntKind} {n : Int} : isCell (.int k n) = true := rfl
theorem isCell_string {s : ByteArray} : isCell (.string s) = true := rfl
theorem isCell_pointer {p : Option Addr} : isCell (.pointer p) = true := rfl
theorem isCell_slice {a : Option Addr} {l c : Nat} : isCell (.slice a l c) = true := rfl
theorem isCell_map {m : Option Nat} : isCell (.map m) = true := rfl
section
variable {t : TypeId}
theorem L_bin (ht : evBin.tPtr C.P t = false) : ∀ d op x y ty' ty p af g fr h Q, WpP C ⟨d, .binOp op t x y ty', ty, p, af, g⟩ fr h Q = onSome (ev1 fr x) (kTwo y (evBin C.P op t x y) fr h Q) := fun _ _ _ _ _ _ _ _ _ _ _ _ => P_binOp ht
def cmpR (P : Program) (op : BinOp) (t : TypeId) (h : Hp) (a b : Value) : Option Value := match op, a, b with
  | .eql, .pointer (some ⟨a, i, none⟩), .pointer (some ⟨b, j, none⟩) => bif evRead.tPtr P t && evRead.alive h a && evRead.alive h b then some (.bool (a == b && i == j)) else none
  | .neq, .pointer (some ⟨a, i, none⟩), .pointer (some ⟨b, j, none⟩) => bif evRead.tPtr P t && evRead.alive h a && evRead.alive h b then some (.bool !(a == b && i == j)) else none
  | _, _, _ => none
def cmpV (P : Program) (op : BinOp) (t : TypeId) (x y : Operand) (h : Hp) (a b : Value) : Option Value := match cmpR P op t h a b with
  | some v => some v
  | none => evBin P op t x y a b
def eqOp : BinOp → Bool
  | .eql => true
  | .neq => true
  | _ => false
theorem L_cmp (ht : evBin.tPtr C.P t = true) {op : BinOp} (ho : eqOp op = true) : ∀ d x y ty' ty p af g fr h Q, WpP C ⟨d, .binOp op t x y ty', ty, p, af, g⟩ fr h Q = onSome (ev1 fr x) (kTwo y (cmpV C.P op t x y h) fr h Q) := by
  intro d x y ty' ty p af g fr h Q
  have hk : kindOf C.P ⟨d, .binOp op t x y ty', ty, p, af, g⟩ = .read := by cases op <;> simp [eqOp] at ho <;> simp [kindOf, ht]
  rw [propext (WpP_read hk)]
  show onSome _ _ = _
  have he : evReadOrPure C.P fr ⟨d, .binOp op t x y ty', ty, p, af, g⟩ h = (ev1 fr x).bind fun a => (ev1 fr y).bind fun b => cmpV C.P op t x y h a b := by
    unfold evReadOrPure
    simp only [evRead, evPure]
    cases ev1 fr x with
    | none => rfl
    | some a => cases ev1 fr y with
      | none => rfl
      | some b => rfl
  rw [he]
  simp only [onSome_bind]
  rfl
def aliveOb : Option Ob → Bool
  | some (.row _ _ (.rw 0 [])) => true
  | _ => false
theorem L_cmpE (ht : evRead.tPtr C.P t = true) : ∀ x y h a i b j, aliveOb (h.get a) = true → aliveOb (h.get b) = true →
    cmpV C.P .eql t x y h (.pointer (some ⟨a, i, none⟩)) (.pointer (some ⟨b, j, none⟩)) = some (.bool (a == b && i == j)) := fun x y h a i b j h1 h2 => by
  have e1 : evRead.alive h a = true := h1
  have e2 : evRead.alive h b = true := h2
  simp [cmpV, cmpR, ht, e1, e2]
theorem L_cmpN (ht : evRead.tPtr C.P t = true) : ∀ x y h a i b j, aliveOb (h.get a) = true → aliveOb (h.get b) = true →
    cmpV C.P .neq t x y h (.pointer (some ⟨a, i, none⟩)) (.pointer (some ⟨b, j, none⟩)) = some (.bool !(a == b && i == j)) := fun x y h a i b j h1 h2 => by
  have e1 : evRead.alive h a = true := h1
  have e2 : evRead.alive h b = true := h2
  simp [cmpV, cmpR, ht, e1, e2]
theorem toList_data (s : ByteArray) : s.toList = s.data.toList := ByteArray.toList_eq s
theorem evBin_eqS {P : Program} {t : TypeId} {xo yo : Operand} {s u : ByteArray} : evBin P .eql t xo yo (.string s) (.string u) = some (.bool (decide (s = u))) := by
  have e : (s.toList == u.toList) = decide (s = u) := by
    rw [toList_data, toList_data, Bool.eq_iff_iff]
    simp only [beq_iff_eq, decide_eq_true_eq]
    exact ⟨fun h => by cases s; cases u; simp only [ByteArray.mk.injEq]; exact Array.toList_inj.1 h, fun h => by rw [h]⟩
  rw [evBin_eqlS, e]
theorem evBin_neS {P : Program} {t : TypeId} {xo yo : Operand} {s u : ByteArray} : evBin P .neq t xo yo (.string s) (.string u) = some (.bool !decide (s = u)) := by
  have e := evBin_eqS (P := P) (t := t) (xo := xo) (yo := yo) (s := s) (u := u)
  rw [evBin_eqlS] at e
  simp only [Option.some.injEq, Value.bool.injEq] at e
  rw [evBin_neqS, e]
theorem L_len (ht : tMap C.P t = none) : ∀ d x ty p af g fr h Q, WpP C ⟨d, .call ⟨.builtin .len, #[x], #[t]⟩, ty, p, af, g⟩ fr h Q = onSome (ev1 fr x) (kOne (evLen C.P t) h Q) := fun _ _ _ _ _ _ _ _ _ => P_len ht
theorem L_lenStr (ht : tString C.P t = some true) : ∀ s, evLen C.P t (.string s) = some (.int .i64 s.size) := fun _ => evLen_string ht
theorem L_lenSl {e : TypeId} (ht : tSliceElem C.P t = some e) : ∀ a n c, evLen C.P t (.slice a n c) = some (.int .i64 n) := fun _ _ _ => evLen_slice ht
def byteAt (s : ByteArray) (k : Nat) : UInt8 := s.data.toList.getD k 0
theorem L_index (ht : tString C.P t = some true) : ∀ s k (i : Int), 0 ≤ i → i < s.size → evIndex C.P t (.string s) (.int k i) = some (.int .u8 ((byteAt s i.toNat).toNat : Int)) := fun s k i h0 h1 => by
  have hi : i.toNat < s.size := by omega
  have : s[i.toNat]? = some (byteAt s i.toNat) := by
    rw [getElem?_pos s i.toNat hi]
    unfold byteAt
    congr 1
    have : i.toNat < s.data.toList.length := by rw [Array.length_toList]; exact hi
    rw [List.getD_eq_getElem?_getD, List.getElem?_eq_getElem this]
    rfl
  simp [evIndex, ht, h0, this]
theorem L_indexAddr {e n : Nat} (h1 : tSliceElem C.P t = some e) (h2 : tSize C.P e = some n) : ∀ b o (len : Nat) cap k (i : Int), 0 ≤ i → i < len →
    evIndexAddr C.P t (.slice (some ⟨b, o, none⟩) len cap) (.int k i) = some (.pointer (some ⟨b, o + i.toNat * n, none⟩)) := fun b o len cap k i h0 hl => by
  simp [evIndexAddr, h1, h2, h0, hl]
theorem L_indexArr {e n m : Nat} (h1 : tArray C.P t = some (m, e)) (h2 : tSize C.P e = some n) : ∀ b o k (i : Int), 0 ≤ i → i < m →
    evIndexAddr C.P t (.pointer (some ⟨b, o, none⟩)) (.int k i) = some (.pointer (some ⟨b, o + i.toNat * n, none⟩)) := fun b o k i h0 hl => by
  simp [evIndexAddr, h1, h2, h0, hl]
theorem opt_none {fr : Fr} : evPure.opt fr none = some none := rfl
theorem opt_some {fr : Fr} {x : Operand} : evPure.opt fr (some x) = (ev1 fr x).map some := rfl
theorem L_slice : ∀ d t x lo hi mx ty p af g fr h Q, WpP C ⟨d, .slice t x lo hi mx, ty, p, af, g⟩ fr h Q =
    onSome (ev1 fr x) fun a => onSome (evPure.opt fr lo) fun l => onSome (evPure.opt fr hi) fun u => onSome (evPure.opt fr mx) fun m => onSome (evSlice C.P t a l u m) (at' Q h) := fun _ _ _ _ _ _ _ _ _ _ _ _ _ => P_slice
theorem L_sliceStr (ht : tString C.P t = some true) : (∀ s k (i : Int), 0 ≤ i → i ≤ s.size → evSlice C.P t (.string s) (some (.int k i)) none none = some (.string (s.extract i.toNat s.size))) ∧
    (∀ s k (i : Int) k' (j : Int), 0 ≤ i → i ≤ j → j ≤ s.size → evSlice C.P t (.string s) (some (.int k i)) (some (.int k' j)) none = some (.string (s.extract i.toNat j.toNat))) ∧
    (∀ s k' (j : Int), 0 ≤ j → j ≤ s.size → evSlice C.P t (.string s) none (some (.int k' j)) none = some (.string (s.extract 0 j.toNat))) := by
  refine ⟨fun s k i h0 h1 => ?_, fun s k i k' j h0 h1 h2 => ?_, fun s k' j h0 h1 => ?_⟩
  · simp [evSlice, ht, bound, h0, h1]
  · have h4 : i ≤ ((j.toNat : Nat) : Int) := by omega
    have h3 : 0 ≤ j := by omega
    simp only [evSlice, ht, bound, Option.isNone_none, BEq.rfl, Bool.and_self, cond_true, decide_eq_true h0, decide_eq_true h2, decide_eq_true h3, decide_eq_true h4, Option.bind_some]
  · simp [evSlice, ht, bound, h0, h1]
def capTail (cap l : Nat) : Nat := 2 * (cap / 2 - l) + cap % 2
theorem L_sliceSl {e n : Nat} (h1 : tSliceElem C.P t = some e) (h2 : tSize C.P e = some n) :
    (∀ b o (len : Nat) cap k (i : Int), 0 ≤ i → i ≤ len → len ≤ cap / 2 → evSlice C.P t (.slice (some ⟨b, o, none⟩) len cap) (some (.int k i)) none none = some (.slice (some ⟨b, o + i.toNat * n, none⟩) (len - i.toNat) (capTail cap i.toNat))) ∧
    (∀ b o (len : Nat) cap k (i : Int) k' (j : Int), 0 ≤ i → i ≤ j → j ≤ len → len ≤ cap / 2 → evSlice C.P t (.slice (some ⟨b, o, none⟩) len cap) (some (.int k i)) (some (.int k' j)) none = some (.slice (some ⟨b, o + i.toNat * n, none⟩) (j.toNat - i.toNat) (capTail cap i.toNat))) ∧
    (∀ b o (len : Nat) cap k' (j : Int), 0 ≤ j → j ≤ len → len ≤ cap / 2 → evSlice C.P t (.slice (some ⟨b, o, none⟩) len cap) none (some (.int k' j)) none = some (.slice (some ⟨b, o, none⟩) j.toNat cap)) := by
  refine ⟨fun b o len cap k i h0 ha hb => ?_, fun b o len cap k i k' j h0 ha hb hc => ?_, fun b o len cap k' j h0 ha hb => ?_⟩
  · simp [evSlice, h1, h2, bound, h0, ha, capTail]
  · have h3 : j ≤ ((cap / 2 : Nat) : Int) := by omega
    have h4 : i ≤ (j.toNat : Int) := by omega
    have h5 : 0 ≤ j := by omega
    have h3' : j ≤ (cap : Int) / 2 := by omega
    simp only [evSlice, h1, h2, bound, Option.map_some, decide_eq_true h0, decide_eq_true h3, decide_eq_true h4, decide_eq_true h5, Bool.and_self, cond_true, Option.bind_some, capTail]
  · have h3' : j ≤ (cap : Int) / 2 := by omega
    have : 2 * (cap / 2) + cap % 2 = cap := by omega
    simp [evSlice, h1, h2, bound, h0, h3', this]
theorem L_alloc {z : Value} {cs : List Value} (hz : tZero C.P t = some z) (hf : flat z = true) (hc : z.cells.toList = cs) : ∀ d ty p af g fr h Q, WpP C ⟨d, .alloc t, ty, p, af, g⟩ fr h Q = Q (.pointer (some ⟨h.next, 0, none⟩)) (h.push (.row cs t (.rw 0 []))) := fun _ _ _ _ _ _ _ _ => by
  subst hc; exact P_alloc hz hf
theorem L_makeMap {kt et : TypeId} (ht : tMap C.P t = some (kt, et)) : ∀ d ty p af g fr h Q, WpP C ⟨d, .makeMap t none, ty, p, af, g⟩ fr h Q = Q (.map (some h.next)) (h.push (.map [] 0)) := fun _ _ _ _ _ _ _ _ => P_makeMap ht
def mkRow (e len : Nat) (cs : List Value) : Ob × (Nat → Value) := (.row cs e (.rw 0 []), fun b => .slice (some ⟨b, 0, none⟩) len (2 * len))
def litRow (e n len : Nat) (z : List Value) (ps : List (Nat × Value)) : Option (Ob × (Nat → Value)) := (fillV (fun i => some (i * n, n)) (List.replicate len z).flatten ps).map (mkRow e len)
theorem L_buildSlice {e n : Nat} {z : Value} {zs : List Value} (h1 : tSliceElem C.P t = some e) (h2 : tSize C.P e = some n) (h3 : tZero C.P e = some z) (h4 : z.cells.toList = zs) (h5 : (flat z && Nat.beq zs.length n) = true) {len : Nat} (h6 : decide (len * n ≤ 2 ^ 24) = true) :
    ∀ d ps ty p af g fr h Q, WpP C ⟨d, .buildSlice t len ps, ty, p, af, g⟩ fr h Q = onSome (evParts fr ps.toList) fun ps => onSome (litRow e n len zs ps) (kNew h Q) := by
  intro d ps ty p af g fr h Q
  have hl := of_decide_eq_true h6
  subst h4
  simp only [Bool.and_eq_true] at h5
  have h6 : (z.cells.size == n) = true := by have := Nat.eq_of_beq_eq_true h5.2; simpa using this
  rw [P_buildSlice]
  have : evNew C.P fr ⟨d, .buildSlice t len ps, ty, p, af, g⟩ = (evParts fr ps.toList).bind fun ps => litRow e n len z.cells.toList ps := by
    simp only [evNew, h1, h2, h3, Option.bind_some, h6, h5.1, decide_eq_true hl, Bool.and_self, cond_true]
    rfl
  rw [this, onSome_bind]
def evMake (P : Program) (t : TypeId) (a b : Value) : Option (Ob × (Nat → Value)) := match a, b with
  | .int .i64 l, .int .i64 c => (tSliceElem P t).bind fun e => (tSize P e).bind fun n => (tBytes P e).bind fun by_ => (tZero P e).bind fun z =>
      bif decide (0 ≤ l) && decide (l ≤ c) && decide (c * (by_ + 1) ≤ 2 ^ 47) && (z.cells.size == n) && flat z then
        some (.row (List.replicate c.toNat z.cells.toList).flatten e (.rw 0 []), fun b => .slice (some ⟨b, 0, none⟩) l.toNat (2 * c.toNat))
      else none
  | _, _ => none
def kMk2 (P : Program) (t : TypeId) (h : Hp) (Q : Value → Hp → Prop) (a b : Value) : Prop := onSome (evMake P t a b) (kNew h Q)
theorem kMk2_eq {P : Program} {t : TypeId} {h : Hp} {Q : Value → Hp → Prop} {a b : Value} : kMk2 P t h Q a b = onSome (evMake P t a b) (kNew h Q) := rfl
def kMk (P : Program) (t : TypeId) (y : Operand) (fr : Fr) (h : Hp) (Q : Value → Hp → Prop) (a : Value) : Prop := onSome (ev1 fr y) (kMk2 P t h Q a)
theorem kMk_eq {P : Program} {t : TypeId} {y : Operand} {fr : Fr} {h : Hp} {Q : Value → Hp → Prop} {a : Value} : kMk P t y fr h Q a = onSome (ev1 fr y) (kMk2 P t h Q a) := rfl
theorem P_make {t : TypeId} {x y : Operand} {d : Option Tmp} {ty : TypeId} {p : String} {af : Array Edge} {g : Option (Nat × Bool)} {fr : Fr} {h : Hp} {Q : Value → Hp → Prop} :
    WpP C ⟨d, .makeSlice t x y, ty, p, af, g⟩ fr h Q = onSome (ev1 fr x) (kMk C.P t y fr h Q) := by
  rw [P_makeSlice]
  have : evNew C.P fr ⟨d, .makeSlice t x y, ty, p, af, g⟩ = (ev1 fr x).bind fun a => (ev1 fr y).bind fun b => evMake C.P t a b := by
    simp only [evNew]
    rfl
  rw [this, onSome_bind]
  congr 1
  funext a
  rw [onSome_bind]; rfl
theorem L_make {e n by_ : Nat} {z : Value} {zs : List Value} (h1 : tSliceElem C.P t = some e) (h2 : tSize C.P e = some n) (h2' : tBytes C.P e = some by_) (h3 : tZero C.P e = some z) (h4 : z.cells.toList = zs) (h5 : (flat z && Nat.beq zs.length n) = true)
    (l : Nat) (hl : (l : Int) * (by_ + 1) ≤ 2 ^ 47) : evMake C.P t (.int .i64 l) (.int .i64 l) = some (.row (List.replicate l zs).flatten e (.rw 0 []), fun b => .slice (some ⟨b, 0, none⟩) l (2 * l)) := by
  subst h4
  simp only [Bool.and_eq_true] at h5
  have h6 : (z.cells.size == n) = true := by have := Nat.eq_of_beq_eq_true h5.2; simpa using this
  have h0 : (0 : Int) ≤ l := by omega
  simp only [evMake, Option.bind_some, h1, h2, h2', h3, h6, h5.1, decide_eq_true h0, decide_eq_true hl, Int.le_refl, decide_true, Bool.and_self, cond_true, Int.toNat_natCast]
theorem L_convInt {s : TypeId} {k : IntKind} (hs : tSliceElem C.P s = none) (ht : C.P.underlying t = some (.int k)) : ∀ d x ty p af g fr h Q, WpP C ⟨d, .convert s t x, ty, p, af, g⟩ fr h Q = onSome (ev1 fr x) (kOne (fun a => bif scal a then prunS C.P (convert s t a) else none) h Q) := fun _ _ _ _ _ _ _ _ _ => P_convert hs
theorem L_append {u e : TypeId} (hu : C.P.underlying u = some (.slice e)) : ∀ d s x ty p af g fr h Q, WpP C ⟨d, .call ⟨.builtin .append, #[s, x], #[t, u]⟩, ty, p, af, g⟩ fr h Q = onSome (ev1 fr s) (kApp C.P t x fr h Q) := fun _ _ _ _ _ _ _ _ _ _ => P_append hu
end
end Go.Ev
namespace Go.Ev
open Go
set_option linter.unusedSimpArgs false
set_option linter.unusedVariables false
def flagB (P : Program) (ops : Array Oper) (j f : Nat) : Bool :=
  let ms := Region.before ops
  match f with
  | 0 => kindAt P ops j == .pure
  | 1 => kindAt P ops j == .read
  | 2 => kindAt P ops j == .new
  | 3 => kindAt P ops j == .eff
  | 4 => kindAt P ops j == .eff && (List.range ops.size).all fun i => !(kindAt P ops i == .read) || (bif decide (j < i) then bit ms i j else bit ms j i)
  | _ => false
def flagsB (P : Program) (ops : Array Oper) : Nat → List Nat → Bool
  | _, [] => true
  | j, f :: fl => flagB P ops j f && flagsB P ops (j + 1) fl
def drawB (P : Program) (ops : Array Oper) (fl : List Nat) : Bool := (sched P ops == List.range ops.size) && Nat.beq fl.length ops.size && flagsB P ops 0 fl
variable {C : Ctx}
abbrev Rd := Fr × Oper × Value
def sameAt (P : Program) (o : Oper) (fr : Fr) (v : Value) : List Hp → Prop
  | [] => True
  | h :: hs => evReadOrPure P fr o h = some v ∧ sameAt P o fr v hs
def stillAt (P : Program) (h : Hp) : List Rd → Prop
  | [] => True
  | (fr, o, v) :: rs => evReadOrPure P fr o h = some v ∧ stillAt P h rs
def WpE (C : Ctx) (ops : Array Oper) : List Nat → List Oper → Fr → Hp → List Hp → List Rd → (Fr → Hp → Prop) → Prop
  | f :: fl, o :: l, fr, h, hs, rs, Q => ∃ b, evWanted ops fr o = some b ∧ match b with
    | true => WpP C o fr h fun v h' => match f with
      | 0 => WpE C ops fl l (put fr o.dst v) h hs rs Q
      | 1 => sameAt C.P o fr v hs ∧ WpE C ops fl l (put fr o.dst v) h hs ((fr, o, v) :: rs) Q
      | 2 => WpE C ops fl l (put fr o.dst v) h' hs rs Q
      | 3 => stillAt C.P h' rs ∧ WpE C ops fl l (put fr o.dst v) h' (h' :: hs) rs Q
      | _ => WpE C ops fl l (put fr o.dst v) h' [h'] [] Q
    | false => match f with
      | 3 => stillAt C.P h rs ∧ WpE C ops fl l (put fr o.dst undef) h (h :: hs) rs Q
      | 4 => WpE C ops fl l (put fr o.dst undef) h [h] [] Q
      | _ => WpE C ops fl l (put fr o.dst undef) h hs rs Q
  | [], [], fr, h, _, _, Q => Q fr h
  | _, _, _, _, _, _, _ => False
section
variable {P : Program} {ops : Array Oper} {call : CallF}
structure DrInv (P : Program) (ops : Array Oper) (a : Nat) (s : Trc) (hs : List Hp) (rs : List Rd) : Prop where
  dn : ∀ e ∈ s.done, e < a
  ef : ∀ e ∈ s.done, kindAt P ops e = .eff ∧ e < ops.size
  lt : ∀ d h, (d, h) ∈ s.bs → ∀ e ∈ d, e < a
  /-- each heap is one of the window, or an ordered effect stands between -/
  bs : ∀ d h, (d, h) ∈ s.bs → h ∈ hs ∨ ∃ e ∈ s.done, e ∉ d ∧ flagB P ops e 4 = true
  ri : ∀ i fr v, (i, fr, v) ∈ s.rs → i < a ∧ i < ops.size ∧ kindAt P ops i = .read
  /-- each read is one of the window, or an ordered effect came behind it -/
  rw_ : ∀ i fr v, (i, fr, v) ∈ s.rs → (∃ o, ops[i]? = some o ∧ (fr, o, v) ∈ rs) ∨ ∃ e ∈ s.done, i < e ∧ flagB P ops e 4 = true
  rs : ∀ i fr v, (i, fr, v) ∈ s.rs → ∀ d h, (d, h) ∈ s.bs → adm (Region.before ops) ((List.range ops.size).filter fun j => kindAt P ops j == .eff) i d = true → ∃ o, ops[i]? = some o ∧ evReadOrPure P fr o h = some v
theorem flag4 {e i : Nat} (h : flagB P ops e 4 = true) (hi : i < ops.size) (hk : kindAt P ops i = .read) : (e < i → bit (Region.before ops) i e = true) ∧ (i ≤ e → bit (Region.before ops) e i = true) := by
  unfold flagB at h
  simp only [Bool.and_eq_true, List.all_eq_true, Bool.or_eq_true, Bool.not_eq_true', beq_eq_false_iff_ne, List.mem_range] at h
  rcases h.2 i hi with h1 | h1
  · exact absurd hk h1
  · refine ⟨fun hlt => ?_, fun hle => ?_⟩
    · rw [decide_eq_true hlt] at h1; exact h1
    · rw [decide_eq_false (by omega)] at h1; exact h1
theorem adm_no_before {i e : Nat} {d : List Nat} (he : e ∈ (List.range ops.size).filter fun j => kindAt P ops j == .eff) (hb : bit (Region.before ops) i e = true) (hd : e ∉ d) :
    adm (Region.before ops) ((List.range ops.size).filter fun j => kindAt P ops j == .eff) i d = true → False := by
  intro h
  unfold adm at h
  simp only [Bool.and_eq_true, List.all_eq_true] at h
  have := h.1 e he
  rw [hb] at this
  simp at this
  exact hd this
theorem adm_no_after {i e : Nat} {d effs : List Nat} (hb : bit (Region.before ops) e i = true) (hd : e ∈ d) : adm (Region.before ops) effs i d = true → False := by
  intro h
  unfold adm at h
  simp only [Bool.and_eq_true, List.all_eq_true] at h
  have := h.2 e hd
  rw [hb] at this; cases this
theorem DrInv.pure {a : Nat} {s : Trc} {hs : List Hp} {rs : List Rd} (I : DrInv P ops a s hs rs) (fr : Fr) (h : Hp) : DrInv P ops (a + 1) { s with fr := fr, h := h } hs rs :=
  ⟨fun e he => by have := I.dn e he; omega, I.ef, fun d h hd e he => by have := I.lt d h hd e he; omega, I.bs, fun i f v hm => ⟨by have := (I.ri i f v hm).1; omega, (I.ri i f v hm).2⟩, I.rw_, I.rs⟩
theorem DrInv.read {a : Nat} {s : Trc} {hs : List Hp} {rs : List Rd} (I : DrInv P ops a s hs rs) {o : Oper} (ho : ops[a]? = some o) (hk : kindAt P ops a = .read) (ha : a < ops.size) {v : Value} (fr : Fr)
    (hv : sameAt P o s.fr v hs) : DrInv P ops (a + 1) { s with fr := fr, rs := (a, s.fr, v) :: s.rs } hs ((s.fr, o, v) :: rs) := by
  have hall : ∀ (l : List Hp), sameAt P o s.fr v l → ∀ h ∈ l, evReadOrPure P s.fr o h = some v := by
    intro l
    induction l with
    | nil => intro _ h hm; cases hm
    | cons x l ih =>
      intro hs h hm
      rcases List.mem_cons.1 hm with rfl | hm
      · exact hs.1
      · exact ih hs.2 h hm
  refine ⟨fun e he => by have := I.dn e he; omega, I.ef, fun d h hd e he => by have := I.lt d h hd e he; omega, I.bs, fun i f u hm => ?_, fun i f u hm => ?_, fun i f u hm d h hd had => ?_⟩
  · rcases List.mem_cons.1 hm with hm | hm
    · simp only [Prod.mk.injEq] at hm
      obtain ⟨rfl, rfl, rfl⟩ := hm
      exact ⟨by omega, ha, hk⟩
    · exact ⟨by have := (I.ri i f u hm).1; omega, (I.ri i f u hm).2⟩
  · rcases List.mem_cons.1 hm with hm | hm
    · simp only [Prod.mk.injEq] at hm
      obtain ⟨rfl, rfl, rfl⟩ := hm
      exact .inl ⟨o, ho, List.mem_cons_self ..⟩
    · rcases I.rw_ i f u hm with ⟨o', h1, h2⟩ | h
      · exact .inl ⟨o', h1, List.mem_cons_of_mem _ h2⟩
      · exact .inr h
  · rcases List.mem_cons.1 hm with hm | hm
    · simp only [Prod.mk.injEq] at hm
      obtain ⟨rfl, rfl, rfl⟩ := hm
      rcases I.bs d h hd with hh | ⟨e, he, hne, h4⟩
      · exact ⟨o, ho, hall hs hv h hh⟩
      · obtain ⟨h1, h2⟩ := I.ef e he
        have hlt := I.dn e he
        exact (adm_no_before (P := P) (List.mem_filter.2 ⟨List.mem_range.2 h2, by rw [h1]; rfl⟩) ((flag4 h4 ha hk).1 hlt) hne had).elim
    · exact I.rs i f u hm d h hd had
theorem DrInv.keep {a : Nat} {s : Trc} {hs : List Hp} {rs : List Rd} (I : DrInv P ops a s hs rs) (hk : kindAt P ops a = .eff) (ha : a < ops.size) (fr : Fr) (h1 : Hp) (hv : stillAt P h1 rs) :
    DrInv P ops (a + 1) { fr := fr, h := h1, done := a :: s.done, bs := (a :: s.done, h1) :: s.bs, rs := s.rs } (h1 :: hs) rs := by
  have hall : ∀ (l : List Rd), stillAt P h1 l → ∀ fr o v, (fr, o, v) ∈ l → evReadOrPure P fr o h1 = some v := by
    intro l
    induction l with
    | nil => intro _ f o v hm; cases hm
    | cons x l ih =>
      obtain ⟨f0, o0, v0⟩ := x
      intro hs f o v hm
      rcases List.mem_cons.1 hm with hm | hm
      · simp only [Prod.mk.injEq] at hm
        obtain ⟨rfl, rfl, rfl⟩ := hm
        exact hs.1
      · exact ih hs.2 f o v hm
  refine ⟨fun e he => ?_, fun e he => ?_, fun d h hd e he => ?_, fun d h hd => ?_, fun i f v hm => ⟨by have := (I.ri i f v hm).1; omega, (I.ri i f v hm).2⟩, fun i f v hm => ?_, fun i f v hm d h hd had => ?_⟩
  · rcases List.mem_cons.1 he with rfl | he
    · omega
    · have := I.dn e he; omega
  · rcases List.mem_cons.1 he with rfl | he
    · exact ⟨hk, ha⟩
    · exact I.ef e he
  · rcases List.mem_cons.1 hd with hd | hd
    · simp only [Prod.mk.injEq] at hd
      obtain ⟨rfl, rfl⟩ := hd
      rcases List.mem_cons.1 he with rfl | he
      · omega
      · have := I.dn e he; omega
    · have := I.lt d h hd e he; omega
  · rcases List.mem_cons.1 hd with hd | hd
    · simp only [Prod.mk.injEq] at hd
      obtain ⟨rfl, rfl⟩ := hd
      exact .inl (List.mem_cons_self ..)
    · rcases I.bs d h hd with hh | ⟨e, he, hne, h4⟩
      · exact .inl (List.mem_cons_of_mem _ hh)
      · exact .inr ⟨e, List.mem_cons_of_mem _ he, hne, h4⟩
  · rcases I.rw_ i f v hm with h | ⟨e, he, h2⟩
    · exact .inl h
    · exact .inr ⟨e, List.mem_cons_of_mem _ he, h2⟩
  · rcases List.mem_cons.1 hd with hd | hd
    · simp only [Prod.mk.injEq] at hd
      obtain ⟨rfl, rfl⟩ := hd
      rcases I.rw_ i f v hm with ⟨o, h2, h3⟩ | ⟨e, he, hlt, h4⟩
      · exact ⟨o, h2, hall rs hv f o v h3⟩
      · obtain ⟨q1, q2, q3⟩ := I.ri i f v hm
        exact (adm_no_after ((flag4 h4 q2 q3).2 (by omega)) (List.mem_cons_of_mem _ he) had).elim
    · exact I.rs i f v hm d h hd had
theorem DrInv.ordered {a : Nat} {s : Trc} {hs : List Hp} {rs : List Rd} (I : DrInv P ops a s hs rs) (hf : flagB P ops a 4 = true) (ha : a < ops.size) (fr : Fr) (h1 : Hp) :
    DrInv P ops (a + 1) { fr := fr, h := h1, done := a :: s.done, bs := (a :: s.done, h1) :: s.bs, rs := s.rs } [h1] [] := by
  have hk : kindAt P ops a = .eff := by unfold flagB at hf; simp only [Bool.and_eq_true] at hf; exact beq_iff_eq.1 hf.1
  refine ⟨fun e he => ?_, fun e he => ?_, fun d h hd e he => ?_, fun d h hd => ?_, fun i f v hm => ⟨by have := (I.ri i f v hm).1; omega, (I.ri i f v hm).2⟩, fun i f v hm => ?_, fun i f v hm d h hd had => ?_⟩
  · rcases List.mem_cons.1 he with rfl | he
    · omega
    · have := I.dn e he; omega
  · rcases List.mem_cons.1 he with rfl | he
    · exact ⟨hk, ha⟩
    · exact I.ef e he
  · rcases List.mem_cons.1 hd with hd | hd
    · simp only [Prod.mk.injEq] at hd
      obtain ⟨rfl, rfl⟩ := hd
      rcases List.mem_cons.1 he with rfl | he
      · omega
      · have := I.dn e he; omega
    · have := I.lt d h hd e he; omega
  · rcases List.mem_cons.1 hd with hd | hd
    · simp only [Prod.mk.injEq] at hd
      obtain ⟨rfl, rfl⟩ := hd
      exact .inl (List.mem_cons_self ..)
    · exact .inr ⟨a, List.mem_cons_self .., fun hm => by have := I.lt d h hd a hm; omega, hf⟩
  · exact .inr ⟨a, List.mem_cons_self .., (I.ri i f v hm).1, hf⟩
  · rcases List.mem_cons.1 hd with hd | hd
    · simp only [Prod.mk.injEq] at hd
      obtain ⟨rfl, rfl⟩ := hd
      obtain ⟨q1, q2, q3⟩ := I.ri i f v hm
      exact (adm_no_after ((flag4 hf q2 q3).2 (by omega)) (List.mem_cons_self ..) had).elim
    · exact I.rs i f v hm d h hd had
end
theorem evOp_pure {P : Program} {call : CallF} {fr : Fr} {o : Oper} {h h' : Hp} {v : Value} (hk : kindOf P o = .pure ∨ kindOf P o = .read) (e : evOp P call fr o h = some (v, h')) : h' = h := by
  unfold evOp at e
  rcases hk with hk | hk <;> rw [hk] at e
  all_goals
    obtain ⟨u, _, e2⟩ := Option.map_eq_some_iff.1 e
    simp only [Prod.mk.injEq] at e2
    exact e2.2.symm
theorem WpE_sound {ops : Array Oper} {Q : Fr → Hp → Prop} : ∀ (l : List Oper) (fl : List Nat) (a : Nat) (s : Trc) (hs : List Hp) (rs : List Rd), ops.toList.drop a = l → flagsB C.P ops a fl = true → DrInv C.P ops a s hs rs →
    WpE C ops fl l s.fr s.h hs rs Q → ∃ n s', trc C.P (evCall C n) ops (List.range' a l.length) s = some s' ∧ (∃ b hs rs, DrInv C.P ops b s' hs rs) ∧ Q s'.fr s'.h
  | [], fl, a, s, hs, rs, _, _, I, w => by
    cases fl with
    | nil => exact ⟨0, s, rfl, ⟨_, _, _, I⟩, w⟩
    | cons _ _ => exact w.elim
  | o :: l, fl, a, s, hs, rs, hl, hf, I, w => by
    cases fl with
    | nil => exact w.elim
    | cons f fl =>
      have ha : a < ops.size := by
        have : (ops.toList.drop a).length = l.length + 1 := by rw [hl]; rfl
        simp at this; omega
      have ho : ops[a]? = some o := by
        have : ops.toList[a]? = (ops.toList.drop a)[0]? := by simp
        rw [hl] at this; simpa using this
      have hl' : ops.toList.drop (a + 1) = l := by rw [← List.drop_drop, hl]; rfl
      have hk : kindAt C.P ops a = kindOf C.P o := kindAt_of ho
      unfold flagsB at hf
      simp only [Bool.and_eq_true] at hf
      obtain ⟨hf, hfl⟩ := hf
      obtain ⟨b, hb, w⟩ := w
      simp only [List.length_cons, List.range'_succ]
      have skip : ∀ s1 : Trc, (trcStep C.P (evCall C 0) ops s a = some s1 → ∀ n, trcStep C.P (evCall C n) ops s a = some s1) := fun s1 e n => trcStep_mono (fun _ _ _ _ h => by cases h) e
      have join : ∀ (n : Nat) (s1 : Trc), trcStep C.P (evCall C n) ops s a = some s1 → (∃ m s', trc C.P (evCall C m) ops (List.range' (a + 1) l.length) s1 = some s' ∧ (∃ b hs rs, DrInv C.P ops b s' hs rs) ∧ Q s'.fr s'.h) →
          ∃ n s', trc C.P (evCall C n) ops (a :: List.range' (a + 1) l.length) s = some s' ∧ (∃ b hs rs, DrInv C.P ops b s' hs rs) ∧ Q s'.fr s'.h := by
        rintro n s1 e1 ⟨m, s', e2, q⟩
        refine ⟨max n m, s', ?_, q⟩
        unfold trc
        rw [trcStep_mono (evCall_mono C (Nat.le_max_left n m)) e1]
        exact trc_mono (evCall_mono C (Nat.le_max_right n m)) _ e2
      cases b with
      | false =>
        have st : ∀ n, trcStep C.P (evCall C n) ops s a = bif kindOf C.P o == .eff then some { s with fr := put s.fr o.dst undef, done := a :: s.done, bs := (a :: s.done, s.h) :: s.bs } else some { s with fr := put s.fr o.dst undef } := fun n => by
          unfold trcStep; rw [ho]; simp only [hb]
        match f, hf, w with
        | 0, hf, w =>
          have hk' : kindOf C.P o = .pure := by rw [← hk]; exact beq_iff_eq.1 hf
          exact join 0 { s with fr := put s.fr o.dst undef } (by rw [st, hk']; rfl) (WpE_sound l fl (a + 1) { s with fr := put s.fr o.dst undef } hs rs hl' hfl (I.pure _ s.h) w)
        | 1, hf, w =>
          have hk' : kindOf C.P o = .read := by rw [← hk]; exact beq_iff_eq.1 hf
          exact join 0 { s with fr := put s.fr o.dst undef } (by rw [st, hk']; rfl) (WpE_sound l fl (a + 1) { s with fr := put s.fr o.dst undef } hs rs hl' hfl (I.pure _ s.h) w)
        | 2, hf, w =>
          have hk' : kindOf C.P o = .new := by rw [← hk]; exact beq_iff_eq.1 hf
          exact join 0 { s with fr := put s.fr o.dst undef } (by rw [st, hk']; rfl) (WpE_sound l fl (a + 1) { s with fr := put s.fr o.dst undef } hs rs hl' hfl (I.pure _ s.h) w)
        | 3, hf, w =>
          have hk' : kindOf C.P o = .eff := by rw [← hk]; exact beq_iff_eq.1 hf
          exact join 0 _ (by rw [st, hk']; rfl) (WpE_sound l fl (a + 1) _ (s.h :: hs) rs hl' hfl (I.keep (by rw [hk, hk']) ha _ s.h w.1) w.2)
        | 4, hf, w =>
          have hk' : kindOf C.P o = .eff := by rw [← hk]; unfold flagB at hf; simp only [Bool.and_eq_true] at hf; exact beq_iff_eq.1 hf.1
          exact join 0 _ (by rw [st, hk']; rfl) (WpE_sound l fl (a + 1) _ [s.h] [] hl' hfl (I.ordered hf ha _ s.h) w)
      | true =>
        obtain ⟨n, v, h', hv, w⟩ := w
        have st : trcStep C.P (evCall C n) ops s a = match kindOf C.P o with
            | .eff => some { fr := put s.fr o.dst v, h := h', done := a :: s.done, bs := (a :: s.done, h') :: s.bs, rs := s.rs }
            | .read => some { s with fr := put s.fr o.dst v, h := h', rs := (a, s.fr, v) :: s.rs }
            | _ => some { s with fr := put s.fr o.dst v, h := h' } := by
          unfold trcStep; rw [ho]; simp only [hb, hv]
          cases kindOf C.P o <;> rfl
        match f, hf, w with
        | 0, hf, w =>
          have hk' : kindOf C.P o = .pure := by rw [← hk]; exact beq_iff_eq.1 hf
          obtain rfl := evOp_pure (.inl hk') hv
          exact join n { s with fr := put s.fr o.dst v } (by rw [st, hk']) (WpE_sound l fl (a + 1) { s with fr := put s.fr o.dst v } hs rs hl' hfl (I.pure _ s.h) w)
        | 1, hf, w =>
          have hk' : kindOf C.P o = .read := by rw [← hk]; exact beq_iff_eq.1 hf
          obtain rfl := evOp_pure (.inr hk') hv
          exact join n { s with fr := put s.fr o.dst v, rs := (a, s.fr, v) :: s.rs } (by rw [st, hk']) (WpE_sound l fl (a + 1) _ hs _ hl' hfl (I.read ho (by rw [hk, hk']) ha _ w.1) w.2)
        | 2, hf, w =>
          have hk' : kindOf C.P o = .new := by rw [← hk]; exact beq_iff_eq.1 hf
          exact join n { s with fr := put s.fr o.dst v, h := h' } (by rw [st, hk']) (WpE_sound l fl (a + 1) { s with fr := put s.fr o.dst v, h := h' } hs rs hl' hfl (I.pure _ h') w)
        | 3, hf, w =>
          have hk' : kindOf C.P o = .eff := by rw [← hk]; exact beq_iff_eq.1 hf
          exact join n _ (by rw [st, hk']; rfl) (WpE_sound l fl (a + 1) _ (h' :: hs) rs hl' hfl (I.keep (by rw [hk, hk']) ha _ h' w.1) w.2)
        | 4, hf, w =>
          have hk' : kindOf C.P o = .eff := by rw [← hk]; unfold flagB at hf; simp only [Bool.and_eq_true] at hf; exact beq_iff_eq.1 hf.1
          exact join n _ (by rw [st, hk']; rfl) (WpE_sound l fl (a + 1) _ [h'] [] hl' hfl (I.ordered hf ha _ h') w)
theorem Wp_drawE {i : Nat} {ops : Array Oper} {fr : Fr} {h : Hp} {Q : Ex → Fr → Hp → Prop} (fl : List Nat) (hB : KR (drawB C.P ops fl)) (w : WpE C ops fl ops.toList fr h [h] [] (doneP Q)) :
    Wp C (.region i ops true) fr h Q := by
  have hB := hB.eq
  unfold drawB at hB
  simp only [Bool.and_eq_true, beq_iff_eq] at hB
  obtain ⟨⟨hS, _⟩, hF⟩ := hB
  have I0 : DrInv C.P ops 0 ⟨fr, h, [], [([], h)], []⟩ [h] [] :=
    ⟨fun _ he => (by cases he), fun _ he => (by cases he), fun d k hd e he => (by simp at hd; obtain ⟨rfl, _⟩ := hd; cases he), fun d k hd => (by simp at hd; exact .inl (by simp [hd.2])), fun _ _ _ hm => (by cases hm), fun _ _ _ hm => (by cases hm), fun _ _ _ hm => (by cases hm)⟩
  obtain ⟨n, s', e1, ⟨_, _, _, I⟩, q⟩ := WpE_sound (C := C) ops.toList fl 0 ⟨fr, h, [], [([], h)], []⟩ [h] [] (by simp) hF I0 w
  refine ⟨n, .norm, s'.fr, s'.h, ?_, q⟩
  unfold evCode
  simp only [cond_true]
  unfold evDraw
  rw [hS, show List.range ops.size = List.range' 0 ops.toList.length by rw [List.range_eq_range']; simp, e1]
  have hr : List.range' 0 ops.toList.length = List.range ops.size := by rw [List.range_eq_range']; simp
  have : readsOk C.P ops ((List.range ops.size).filter fun j => kindAt C.P ops j == .eff) s' = true := by
    unfold readsOk
    rw [List.all_eq_true]
    rintro ⟨i, f, v⟩ hm
    rw [List.all_eq_true]
    rintro ⟨d, k⟩ hd
    simp only [Bool.or_eq_true, Bool.not_eq_true']
    cases hadm : adm (Region.before ops) ((List.range ops.size).filter fun j => kindAt C.P ops j == .eff) i d with
    | false => exact .inl rfl
    | true =>
      obtain ⟨o, h1, h2⟩ := I.rs i f v hm d k hd hadm
      right
      rw [h1]
      simp only [h2, veq_refl]
  rw [hr]
  simp only [this, cond_true]
section
variable {ops : Array Oper} {f : Nat} {fl : List Nat} {o : Oper} {l : List Oper} {fr : Fr} {h h' : Hp} {hs : List Hp} {rs : List Rd} {Q : Fr → Hp → Prop} {v : Value}
def stepE (C : Ctx) (ops : Array Oper) (fl : List Nat) (l : List Oper) (o : Oper) (fr : Fr) (h : Hp) (hs : List Hp) (rs : List Rd) (Q : Fr → Hp → Prop) (f : Nat) (v : Value) (h' : Hp) : Prop := match f with
  | 0 => WpE C ops fl l (put fr o.dst v) h hs rs Q
  | 1 => sameAt C.P o fr v hs ∧ WpE C ops fl l (put fr o.dst v) h hs ((fr, o, v) :: rs) Q
  | 2 => WpE C ops fl l (put fr o.dst v) h' hs rs Q
  | 3 => stillAt C.P h' rs ∧ WpE C ops fl l (put fr o.dst v) h' (h' :: hs) rs Q
  | _ => WpE C ops fl l (put fr o.dst v) h' [h'] [] Q
def skipE (C : Ctx) (ops : Array Oper) (fl : List Nat) (l : List Oper) (o : Oper) (fr : Fr) (h : Hp) (hs : List Hp) (rs : List Rd) (Q : Fr → Hp → Prop) (f : Nat) : Prop := match f with
  | 3 => stillAt C.P h rs ∧ WpE C ops fl l (put fr o.dst undef) h (h :: hs) rs Q
  | 4 => WpE C ops fl l (put fr o.dst undef) h [h] [] Q
  | _ => WpE C ops fl l (put fr o.dst undef) h hs rs Q
def kWantE (C : Ctx) (ops : Array Oper) (fl : List Nat) (l : List Oper) (o : Oper) (fr : Fr) (h : Hp) (hs : List Hp) (rs : List Rd) (Q : Fr → Hp → Prop) (f : Nat) (b : Bool) : Prop :=
  bif b then WpP C o fr h (stepE C ops fl l o fr h hs rs Q f) else skipE C ops fl l o fr h hs rs Q f
theorem kWantE_true : kWantE C ops fl l o fr h hs rs Q f true = WpP C o fr h (stepE C ops fl l o fr h hs rs Q f) := rfl
theorem kWantE_false : kWantE C ops fl l o fr h hs rs Q f false = skipE C ops fl l o fr h hs rs Q f := rfl
theorem WpE_nil : WpE C ops [] [] fr h hs rs Q = Q fr h := by unfold WpE; rfl
theorem WpE_cons : WpE C ops (f :: fl) (o :: l) fr h hs rs Q = onSome (evWanted ops fr o) (kWantE C ops fl l o fr h hs rs Q f) := by
  unfold WpE onSome
  refine propext ⟨fun ⟨b, h1, h2⟩ => ⟨b, h1, ?_⟩, fun ⟨b, h1, h2⟩ => ⟨b, h1, ?_⟩⟩
  · cases b with
    | true => exact h2
    | false => exact h2
  · cases b with
    | true => exact h2
    | false => exact h2
theorem stepE_0 : stepE C ops fl l o fr h hs rs Q 0 v h' = WpE C ops fl l (put fr o.dst v) h hs rs Q := rfl
theorem stepE_1 : stepE C ops fl l o fr h hs rs Q 1 v h' = (sameAt C.P o fr v hs ∧ WpE C ops fl l (put fr o.dst v) h hs ((fr, o, v) :: rs) Q) := rfl
theorem stepE_2 : stepE C ops fl l o fr h hs rs Q 2 v h' = WpE C ops fl l (put fr o.dst v) h' hs rs Q := rfl
theorem stepE_3 : stepE C ops fl l o fr h hs rs Q 3 v h' = (stillAt C.P h' rs ∧ WpE C ops fl l (put fr o.dst v) h' (h' :: hs) rs Q) := rfl
theorem stepE_4 : stepE C ops fl l o fr h hs rs Q 4 v h' = WpE C ops fl l (put fr o.dst v) h' [h'] [] Q := rfl
theorem skipE_0 : skipE C ops fl l o fr h hs rs Q 0 = WpE C ops fl l (put fr o.dst undef) h hs rs Q := rfl
theorem skipE_1 : skipE C ops fl l o fr h hs rs Q 1 = WpE C ops fl l (put fr o.dst undef) h hs rs Q := rfl
theorem skipE_2 : skipE C ops fl l o fr h hs rs Q 2 = WpE C ops fl l (put fr o.dst undef) h hs rs Q := rfl
theorem skipE_3 : skipE C ops fl l o fr h hs rs Q 3 = (stillAt C.P h rs ∧ WpE C ops fl l (put fr o.dst undef) h (h :: hs) rs Q) := rfl
theorem skipE_4 : skipE C ops fl l o fr h hs rs Q 4 = WpE C ops fl l (put fr o.dst undef) h [h] [] Q := rfl
theorem put_some {d : Tmp} : put fr (some d) v = fr.set d v := rfl
theorem put_none : put fr none v = fr := rfl
variable {P : Program} {d : Option Tmp} {ty t : TypeId} {p : String} {af : Array Edge} {g : Option (Nat × Bool)} {x y : Operand}
theorem sameAt_nil : sameAt P o fr v [] = True := rfl
theorem stillAt_nil : stillAt P h [] = True := rfl
theorem read_load : evReadOrPure P fr ⟨d, .load t x, ty, p, af, g⟩ h = (ev1 fr x).bind fun a => evLoad P t a h := by
  unfold evReadOrPure; simp only [evRead, evPure]; cases ((ev1 fr x).bind fun a => evLoad P t a h) <;> rfl
theorem read_lookup {i : Operand} {ok : Bool} : evReadOrPure P fr ⟨d, .lookup t x i ok, ty, p, af, g⟩ h = (ev1 fr x).bind fun a => (ev1 fr i).bind fun b => evLookup P t a b ok h := by
  unfold evReadOrPure; simp only [evRead, evPure]; cases ((ev1 fr x).bind fun a => (ev1 fr i).bind fun b => evLookup P t a b ok h) <;> rfl
theorem sameAt_load : sameAt P ⟨d, .load t x, ty, p, af, g⟩ fr v (h :: hs) = (((ev1 fr x).bind fun a => evLoad P t a h) = some v ∧ sameAt P ⟨d, .load t x, ty, p, af, g⟩ fr v hs) := by
  rw [← read_load (d := d) (ty := ty) (p := p) (af := af) (g := g)]; rfl
theorem sameAt_lookup {i : Operand} {ok : Bool} : sameAt P ⟨d, .lookup t x i ok, ty, p, af, g⟩ fr v (h :: hs) = (((ev1 fr x).bind fun a => (ev1 fr i).bind fun b => evLookup P t a b ok h) = some v ∧ sameAt P ⟨d, .lookup t x i ok, ty, p, af, g⟩ fr v hs) := by
  rw [← read_lookup (d := d) (ty := ty) (p := p) (af := af) (g := g)]; rfl
theorem stillAt_load : stillAt P h ((fr, ⟨d, .load t x, ty, p, af, g⟩, v) :: rs) = (((ev1 fr x).bind fun a => evLoad P t a h) = some v ∧ stillAt P h rs) := by
  rw [← read_load (d := d) (ty := ty) (p := p) (af := af) (g := g)]; rfl
theorem stillAt_lookup {i : Operand} {ok : Bool} : stillAt P h ((fr, ⟨d, .lookup t x i ok, ty, p, af, g⟩, v) :: rs) = (((ev1 fr x).bind fun a => (ev1 fr i).bind fun b => evLookup P t a b ok h) = some v ∧ stillAt P h rs) := by
  rw [← read_lookup (d := d) (ty := ty) (p := p) (af := af) (g := g)]; rfl
end
theorem evd : type_of% @WpE_nil ∧ type_of% @WpE_cons ∧ type_of% @kWantE_true ∧ type_of% @kWantE_false ∧ type_of% @stepE_0 ∧ type_of% @stepE_1 ∧ type_of% @stepE_2 ∧ type_of% @stepE_3 ∧ type_of% @stepE_4 ∧ type_of% @skipE_0 ∧ type_of% @skipE_1 ∧ type_of% @skipE_2 ∧ type_of% @skipE_3 ∧ type_of% @skipE_4 ∧
    type_of% @put_some ∧ type_of% @put_none ∧ type_of% @sameAt_nil ∧ type_of% @stillAt_nil ∧ type_of% @sameAt_load ∧ type_of% @sameAt_lookup ∧ type_of% @stillAt_load ∧ type_of% @stillAt_lookup :=
  ⟨@WpE_nil, @WpE_cons, @kWantE_true, @kWantE_false, @stepE_0, @stepE_1, @stepE_2, @stepE_3, @stepE_4, @skipE_0, @skipE_1, @skipE_2, @skipE_3, @skipE_4, @put_some, @put_none, @sameAt_nil, @stillAt_nil, @sameAt_load, @sameAt_lookup, @stillAt_load, @stillAt_lookup⟩
end Go.Ev
namespace Go.Ev
open Go
set_option linter.unusedSimpArgs false
set_option linter.unusedVariables false
def SlAt (h : Hp) (n : Nat) (v : Value) (cs : List Value) : Prop :=
  (v = .slice none 0 0 ∧ cs = []) ∨ ∃ b o k c all, v = .slice (some ⟨b, o, none⟩) k c ∧ k ≤ c / 2 ∧ b < h.next ∧ rowOf h b = some all ∧ cs.length = k * n ∧ (all.drop o).take (k * n) = cs
theorem SlAt.keep {h h' : Hp} {n : Nat} {v : Value} {cs : List Value} (s : SlAt h n v cs) (k : Keep h h') : SlAt h' n v cs := by
  rcases s with s | ⟨b, o, j, c, all, h1, h2, h3, h4, h5, h6⟩
  · exact .inl s
  · exact .inr ⟨b, o, j, c, all, h1, h2, Nat.lt_of_lt_of_le h3 k.1, by rw [k.row h3]; exact h4, h5, h6⟩
theorem SlAt.cells {h : Hp} {n : Nat} {v : Value} {cs : List Value} (s : SlAt h n v cs) : ∃ k, lenOf v = some k ∧ evCells n k v h = some cs ∧ cs.length = k * n := by
  rcases s with ⟨rfl, rfl⟩ | ⟨b, o, j, c, all, rfl, h2, h3, h4, h5, h6⟩
  · exact ⟨0, rfl, rfl, by simp⟩
  · refine ⟨j, rfl, ?_, h5⟩
    unfold evCells
    cases hj : (j * n == 0) with
    | true =>
      have : j * n = 0 := by simpa using hj
      simp only [cond_true]
      rw [this] at h5
      rw [List.length_eq_zero_iff.1 h5]
    | false =>
      simp only [cond_false, h4, Option.bind_some]
      have hl : (all.drop o |>.take (j * n)).length = j * n := by rw [h6, h5]
      have hj0 : j * n ≠ 0 := by simpa using hj
      have : o + j * n ≤ all.length := by simp at hl; omega
      rw [decide_eq_true this]
      simp only [cond_true, h6]
def Grown (h0 : Nat) (h : Hp) (v : Value) (e n : Nat) (cs : List Value) : Prop :=
  (v = .slice none 0 0 ∧ cs = []) ∨ ∃ b k base olds x, v = .slice (some ⟨b, 0, none⟩) k (2 * k + x) ∧ x ≤ 1 ∧ cs.length = k * n ∧ 1 ≤ k ∧ b < h.next ∧ h.get b = some (.row cs e (.rw base olds)) ∧
    base + n ≤ cs.length ∧ h0 ≤ b ∧ ∀ o ∈ olds, h0 ≤ o
theorem Grown.slAt {h0 : Nat} {h : Hp} {v : Value} {e n : Nat} {cs : List Value} (g : Grown h0 h v e n cs) : SlAt h n v cs := by
  rcases g with g | ⟨b, k, base, olds, x, h1, h2, h3, h4, h5, h6, _⟩
  · exact .inl g
  · exact .inr ⟨b, 0, k, 2 * k + x, cs, h1, by omega, h5, rowOf_rw h6, h3, by rw [List.drop_zero, List.take_of_length_le (by omega)]⟩
theorem Grown.keep {h0 : Nat} {h h' : Hp} {v : Value} {e n : Nat} {cs : List Value} (g : Grown h0 h v e n cs) (k : Keep h h') : Grown h0 h' v e n cs := by
  rcases g with g | ⟨b, j, base, olds, x, h1, h2, h3, h4, h5, h6, h7⟩
  · exact .inl g
  · exact .inr ⟨b, j, base, olds, x, h1, h2, h3, h4, Nat.lt_of_lt_of_le h5 k.1, by rw [k.2 b h5]; exact h6, h7⟩
def Kept (h0 : Nat) (h h' : Hp) : Prop := h.next ≤ h'.next ∧ ∀ c, c < h0 → h'.get c = h.get c
theorem Kept.refl (h0 : Nat) (h : Hp) : Kept h0 h h := ⟨Nat.le_refl _, fun _ _ => rfl⟩
theorem Kept.trans {h0 : Nat} {a b c : Hp} (x : Kept h0 a b) (y : Kept h0 b c) : Kept h0 a c := ⟨Nat.le_trans x.1 y.1, fun k hk => (y.2 k hk).trans (x.2 k hk)⟩
theorem Kept.keep {a b : Hp} (x : Kept a.next a b) : Keep a b := x
end Go.Ev
namespace Go.Ev
open Go Go.RowKit
set_option linter.unusedSimpArgs false
set_option linter.unusedVariables false
def absC (N : Nat) : Value → Option Value
  | .bool b => some (.bool b)
  | .int k n => some (.int k n)
  | .float k n => some (.float k n)
  | .complex k x y => some (.complex k x y)
  | .string s => some (.string s)
  | .pointer none => some (.pointer none)
  | .pointer (some ⟨b, o, none⟩) => bif decide (b < N) then some (.pointer (some ⟨b, o, none⟩)) else none
  | .slice none 0 0 => some (.slice none 0 0)
  | .slice (some _) 0 0 => bif decide (0 < N) then some (.slice (some ⟨0, 0, none⟩) 0 0) else none
  | .slice (some ⟨b, o, none⟩) l c => bif decide (b < N) && decide (l ≤ c) then some (.slice (some ⟨b, o, none⟩) l (2 * c)) else none
  | .map none => some (.map none)
  | .chan none => some (.chan none)
  | .nilFunc => some .nilFunc
  | .nilIface => some .nilIface
  | _ => none
def absL (N : Nat) : List Value → Option (List Value)
  | [] => some []
  | v :: l => (absC N v).bind fun a => (absL N l).bind fun as0 => some (a :: as0)
def absV (N : Nat) : Value → Option Value
  | .agg cs => (absL N cs.toList).map fun l => .agg l.toArray
  | v => absC N v
def absA (N : Nat) : List Value → Option (List Value)
  | [] => some []
  | v :: l => (absV N v).bind fun a => (absA N l).bind fun as0 => some (a :: as0)
def absH (N : Nat) (v : Value) : Value := match absC N v with
  | some a => a
  | none => .chan (some 0)
def obIn (N : Nat) : Obj → Ob
  | .cells cs t _ => .row (cs.toList.map (absH N)) t .ro
  | _ => .row [] 0 .dead
noncomputable def hIn (w : World) : Hp := { t := Tr.ofList (w.heap.toList.map (obIn w.heap.size)) 0 .e, next := w.heap.size }
def mIn (w : World) : Mp := fun b => if b < w.heap.size then some ⟨b, 0⟩ else none
theorem mIn_lt {w : World} {b : Nat} (h : b < w.heap.size) : mIn w b = some ⟨b, 0⟩ := if_pos h
theorem absC_rel {w : World} {v a : Value} (h : absC w.heap.size v = some a) : VRel (mIn w) a v := by
  unfold absC at h
  split at h
  case h_7 =>
    rename_i b o
    cases hb : decide (b < w.heap.size) with
    | false => rw [hb] at h; cases h
    | true => rw [hb] at h; cases h; exact .ptr (L := ⟨b, 0⟩) (mIn_lt (of_decide_eq_true hb))
  case h_9 =>
    cases hb : decide (0 < w.heap.size) with
    | false => rw [hb] at h; cases h
    | true => rw [hb] at h; cases h; exact .slc (L := ⟨0, 0⟩) (mIn_lt (of_decide_eq_true hb)) (by omega) (by simp) (.inr rfl)
  case h_10 =>
    rename_i b o l c _
    cases hb : decide (b < w.heap.size) with
    | false => rw [hb] at h; simp at h
    | true => cases hl : decide (l ≤ c) with
      | false => rw [hb, hl] at h; simp at h
      | true =>
        rw [hb, hl] at h; simp at h; subst h
        exact .slc (L := ⟨b, 0⟩) (mIn_lt (of_decide_eq_true hb)) (by have := of_decide_eq_true hl; omega) (by simp) (.inl rfl)
  case h_15 => cases h
  all_goals
    cases h
    constructor
theorem absL_rel {w : World} : ∀ {l as0 : List Value}, absL w.heap.size l = some as0 → VL (mIn w) as0 l
  | [], as0, h => by cases h; exact .nil
  | v :: l, as0, h => by
    unfold absL at h
    simp only [Option.bind_eq_some_iff] at h
    obtain ⟨a, h1, bs, h2, h3⟩ := h
    cases h3
    exact .cons (absC_rel h1) (absL_rel h2)
theorem absV_rel {w : World} {v a : Value} (h : absV w.heap.size v = some a) : VRel (mIn w) a v := by
  unfold absV at h
  split at h
  · obtain ⟨l, h1, rfl⟩ := Option.map_eq_some_iff.1 h
    exact .agg (by simpa using absL_rel h1)
  · exact absC_rel h
theorem absA_rel {w : World} : ∀ {l as0 : List Value}, absA w.heap.size l = some as0 → VL (mIn w) as0 l
  | [], as0, h => by cases h; exact .nil
  | v :: l, as0, h => by
    unfold absA at h
    simp only [Option.bind_eq_some_iff] at h
    obtain ⟨a, h1, bs, h2, h3⟩ := h
    cases h3
    exact .cons (absV_rel h1) (absA_rel h2)
theorem absH_rel {w : World} (v : Value) : VRel (mIn w) (absH w.heap.size v) v := by
  unfold absH
  cases ha : absC w.heap.size v with
  | some a => exact absC_rel ha
  | none => exact .hole
theorem absH_all {w : World} : ∀ (l : List Value), VL (mIn w) (l.map (absH w.heap.size)) l
  | [] => .nil
  | v :: l => .cons (absH_rel v) (absH_all l)
theorem hIn_get (w : World) (b : Nat) : (hIn w).get b = (w.heap[b]?).map (obIn w.heap.size) := by
  unfold hIn Hp.get
  simp only [Tr.get_ofList, Nat.zero_le, if_true, Nat.sub_zero, List.getElem?_map, Array.getElem?_toList]
  cases w.heap[b]? with
  | none => simp [Tr.get_e]
  | some o => rfl
theorem obIn_ro (N : Nat) (o : Obj) : ∃ cs e, obIn N o = .row cs e .ro ∨ obIn N o = .row cs e .dead := by
  unfold obIn
  split
  · exact ⟨_, _, .inl rfl⟩
  · exact ⟨_, _, .inr rfl⟩
theorem hIn_live (w : World) (b : Nat) : ¬ live (hIn w) b := by
  unfold live
  rw [hIn_get]
  cases w.heap[b]? with
  | none => exact fun h => h
  | some o => obtain ⟨cs, e, h | h⟩ := obIn_ro w.heap.size o <;> (rw [Option.map_some, h]; exact fun h => h)
theorem rep_in (P : Program) (w : World) : Rep P (mIn w) (hIn w) w := by
  have key : ∀ b ob, (hIn w).get b = some ob → ∃ o, w.heap[b]? = some o ∧ obIn w.heap.size o = ob := fun b ob h => by
    rw [hIn_get] at h; exact Option.map_eq_some_iff.1 h
  refine Rep.mk (fun b L e => ?_) (fun b hb => ⟨?_, ?_⟩) (fun b cs e st hb hd => ?_) (fun b cs e base olds hb => ?_) (fun b es ck hb => ?_) (fun b b' L L' hl _ _ _ _ => absurd hl (hIn_live w b))
  · unfold mIn at e
    split at e
    · cases e; assumption
    · cases e
  · rw [hIn_get, Array.getElem?_eq_none (show w.heap.size ≤ b from hb)]; rfl
  · exact if_neg (Nat.not_lt.2 (show w.heap.size ≤ b from hb))
  · obtain ⟨o, h1, h2⟩ := key b _ hb
    have hlt : b < w.heap.size := (Array.getElem?_eq_some_iff.1 h1).1
    unfold obIn at h2
    split at h2
    · rename_i cs' t' fz
      cases h2
      refine ⟨⟨b, 0⟩, cs', fz, mIn_lt hlt, h1, ?_⟩
      rw [List.take_of_length_le (by simp)]
      exact absH_all _
    · cases h2; exact hd.elim
  · obtain ⟨o, h1, h2⟩ := key b _ hb
    obtain ⟨cs', e', h | h⟩ := obIn_ro w.heap.size o <;> rw [h] at h2 <;> cases h2
  · obtain ⟨o, h1, h2⟩ := key b _ hb
    obtain ⟨cs', e', h | h⟩ := obIn_ro w.heap.size o <;> rw [h] at h2 <;> cases h2
theorem Step.belowIn {w w' : World} {m : Mp} {h : Hp} (s : Step (mIn w) (hIn w) w m h w') : Below w.heap.size w w' :=
  ⟨s.os, s.tape, s.output, s.size, fun k hk => s.same k hk fun b L hl _ => absurd hl (hIn_live w b)⟩
theorem From.cellIn {w0 w : World} {m : Mp} {h : Hp} (i : From (mIn w0) (hIn w0) w0 m h w) {a : Addr} {v : Value} (e : w0.cell? a = some v) : w.cell? a = some v := by
  have hlt : a.block < w0.heap.size := by
    unfold World.cell? at e
    rcases h : w0.heap[a.block]? with _ | o
    · rw [h] at e; simp at e
    · exact (Array.getElem?_eq_some_iff.1 h).1
  have := (Step.belowIn i).block a.block hlt
  unfold World.cell? at e ⊢
  rw [this]; exact e
theorem open_call {C : Ctx} {w0 : World} (hC : CtxOK C (From (mIn w0) (hIn w0) w0) (regOk C.P)) (hmix : C.P.follows .mixedOrders = true) {f : Nat} {args abs : List Value} (ha : absA w0.heap.size args = some abs) {b : Bool}
    (e : Meets C f abs (hIn w0) fun v _ => v = .bool b) : Calls C.P f args.toArray w0 fun e w' => e = .returned (.bool b) ∧ Below w0.heap.size w0 w' := by
  obtain ⟨v, h', ⟨n, e1⟩, rfl⟩ := e
  obtain ⟨_, k⟩ := evCall_sound (From.closed _ _ w0) hC hmix n f abs (hIn w0) _ _ e1
  refine (k (mIn w0) w0 args (rep_in _ _) (Step.refl _ _ _) (absA_rel ha)).mono fun e w' he => ?_
  obtain ⟨v', m', rfl, _, hs, hv⟩ := he
  cases hv
  exact ⟨rfl, hs.belowIn⟩
end Go.Ev
namespace Go.Ev
open Go
theorem u8_of {n : Int} (h : (Lit.int .u8 n).wf = true) : ∃ c : UInt8, n = (c.toNat : Int) := by
  have h2 : (decide (IntKind.u8.min ≤ n) && decide (n ≤ IntKind.u8.max)) = true := h
  simp only [Bool.and_eq_true, decide_eq_true_eq] at h2
  have h3 : 0 ≤ n ∧ n ≤ 255 := h2
  exact ⟨UInt8.ofNat n.toNat, by rw [UInt8.toNat_ofNat']; omega⟩
end Go.Ev
namespace Go.Ev
open Go
set_option linter.unusedSimpArgs false
set_option linter.unusedVariables false
def RdT (P : Program) (W : World) (t : TypeId) (cs : List Value) : Prop :=
  ∃ (H : Type) (enc : TypeId × Value → H) (fuel : Nat) (x : DataW H × List MemPlace), DataW.trod enc P W 0 (fun _ => true) true fuel t cs = some x
section
variable {P : Program} {W : World} {t : TypeId} {cs : List Value}
theorem RdT.of {H : Type} {enc : TypeId × Value → H} {v : Value} {d : DataW H} {ps : List MemPlace} (h : DataW.Trod enc P W 0 (fun _ => true) true t v d ps) : RdT P W t v.cells.toList := by
  obtain ⟨f, h⟩ := h; exact ⟨H, enc, f, _, h⟩
theorem RdT.bool (ht : P.underlying t = some .bool) (h : RdT P W t cs) : ∃ b, cs = [.bool b] := by
  obtain ⟨_, _, _, _, h⟩ := h; obtain ⟨b, h, _⟩ := DataW.trod_bool ht h; exact ⟨b, h⟩
theorem RdT.int {k : IntKind} (ht : P.underlying t = some (.int k)) (h : RdT P W t cs) : ∃ n, cs = [.int k n] ∧ (Lit.int k n).wf = true := by
  obtain ⟨_, _, _, _, h⟩ := h; obtain ⟨b, h, _, h2⟩ := DataW.trod_int ht h; exact ⟨b, h, h2⟩
theorem RdT.string (ht : P.underlying t = some .string) (h : RdT P W t cs) : ∃ s : ByteArray, cs = [.string s] ∧ s.size ≤ Go.maxLen := by
  obtain ⟨_, _, _, _, h⟩ := h; obtain ⟨b, h, _, h2⟩ := DataW.trod_string ht h; exact ⟨b, h, h2⟩
theorem RdT.struct {fs : Array Field} (ht : P.underlying t = some (.struct fs)) (h : RdT P W t cs) : cs.length = P.cellsOf t ∧ ∀ (i : Nat) (f : Field), fs[i]? = some f → RdT P W f.type ((cs.drop f.offset).take (P.cellsOf f.type)) := by
  obtain ⟨H, enc, _, _, h⟩ := h
  obtain ⟨xs, n, _, _, h1, h2, h3⟩ := DataW.trod_struct ht h
  refine ⟨h1, fun i f hf => ?_⟩
  have hi : i < xs.length := by rw [h2]; exact (Array.getElem?_eq_some_iff.1 hf).1
  exact ⟨H, enc, n, xs[i], by rw [h3 i f hf, List.getElem?_eq_getElem hi]⟩
theorem RdT.len {fs : Array Field} (ht : P.underlying t = some (.struct fs)) {n : Nat} (hn : P.cellsOf t = n) (h : RdT P W t cs) : cs.length = n := by rw [← hn]; exact (RdT.struct ht h).1
theorem RdT.field {fs : Array Field} (ht : P.underlying t = some (.struct fs)) (h : RdT P W t cs) (i u o n : Nat) (hf : (fs[i]?).map (fun f => (f.type, f.offset)) = some (u, o)) (hn : P.cellsOf u = n) : RdT P W u ((cs.drop o).take n) := by
  obtain ⟨f, h1, h2⟩ := Option.map_eq_some_iff.1 hf
  have := (RdT.struct ht h).2 i f h1
  simp only [Prod.mk.injEq] at h2
  obtain ⟨rfl, rfl⟩ := h2
  rw [hn] at this; exact this
theorem RdT.array {n : Nat} {e : TypeId} (ht : P.underlying t = some (.array n e)) (h : RdT P W t cs) : cs.length = P.cellsOf t ∧ ∀ i, i < n → RdT P W e ((cs.drop (i * P.cellsOf e)).take (P.cellsOf e)) := by
  obtain ⟨H, enc, _, _, h⟩ := h
  obtain ⟨xs, m, _, _, h1, h2, h3⟩ := DataW.trod_array ht h
  refine ⟨h1, fun i hi => ?_⟩
  exact ⟨H, enc, m, xs[i]'(by omega), by rw [h3 i hi, List.getElem?_eq_getElem (by omega)]⟩
theorem RdT.slice {e : TypeId} (ht : P.underlying t = some (.slice e)) (h : RdT P W t cs) : cs = [.slice none 0 0] ∨
    ∃ a len cap, cs = [.slice (some a) len cap] ∧ len ≤ cap ∧ cap ≤ Go.maxLen ∧ ∀ i, i < cap → ∃ l, W.cells? 0 (a.add (i * P.cellsOf e)) (P.cellsOf e) = some l ∧ RdT P W e l := by
  obtain ⟨H, enc, _, _, h⟩ := h
  rcases DataW.trod_slice ht h with ⟨h1, _⟩ | ⟨a, len, cap, elems, rest, n, _, h1, _, _, h3, h4, h5, h6, h7, _⟩
  · exact .inl h1
  · refine .inr ⟨a, len, cap, h1, h3, h4, fun i hi => ?_⟩
    obtain ⟨h8, h9⟩ := h7 rfl
    have key : ∃ y, (W.cells? 0 (a.add (i * P.cellsOf e)) (P.cellsOf e)).bind (DataW.trod enc P W 0 (fun _ => true) true n e) = some y := by
      by_cases hl : i < len
      · exact ⟨elems[i]'(by omega), by rw [h6 i hl, List.getElem?_eq_getElem (by omega)]⟩
      · refine ⟨rest[i - len]'(by omega), ?_⟩
        have := h9 (i - len) (by omega)
        rw [show len + (i - len) = i by omega] at this
        rw [this, List.getElem?_eq_getElem (by omega)]
    obtain ⟨y, hy⟩ := key
    obtain ⟨l, hl, hy⟩ := Option.bind_eq_some_iff.1 hy
    exact ⟨l, hl, H, enc, n, y, hy⟩
end
theorem absH_of {N : Nat} {v a : Value} (h : absC N v = some a) : absH N v = a := by unfold absH; rw [h]
theorem absL_map {N : Nat} : ∀ {l as0 : List Value}, absL N l = some as0 → as0 = l.map (absH N)
  | [], as0, h => by cases h; rfl
  | v :: l, as0, h => by
    unfold absL at h
    simp only [Option.bind_eq_some_iff] at h
    obtain ⟨a, h1, bs, h2, h3⟩ := h
    cases h3
    rw [List.map_cons, absH_of h1, absL_map h2]
theorem choose_list {α : Type} {R : Nat → α → Prop} : ∀ n, (∀ i, i < n → ∃ x, R i x) → ∃ xs : List α, xs.length = n ∧ ∀ (i : Nat) (x : α), xs[i]? = some x → R i x
  | 0, _ => ⟨[], rfl, fun i x h => by simp at h⟩
  | n + 1, h => by
    obtain ⟨xs, h1, h2⟩ := choose_list n fun i hi => h i (by omega)
    obtain ⟨x, hx⟩ := h n (by omega)
    refine ⟨xs ++ [x], by simp [h1], fun i y hy => ?_⟩
    by_cases hi : i < n
    · rw [List.getElem?_append_left (by omega)] at hy; exact h2 i y hy
    · have hi2 : i = n := by
        have := (List.getElem?_eq_some_iff.1 hy).1
        simp [h1] at this; omega
      subst hi2
      rw [List.getElem?_append_right (by omega), h1] at hy
      simp at hy; subst hy; exact hx
theorem mapM_len {α β : Type} {f : α → Option β} : ∀ {l : List α} {ys : List β}, l.mapM f = some ys → ys.length = l.length ∧ ∀ (i : Nat) (x : α), l[i]? = some x → f x = ys[i]?
  | [], ys, h => by simp at h; subst h; exact ⟨rfl, fun i x hx => by simp at hx⟩
  | a :: l, ys, h => by
    rw [List.mapM_cons] at h
    simp only [Option.bind_eq_bind, Option.bind_eq_some_iff, Option.pure_def, Option.some.injEq] at h
    obtain ⟨b, hb, bs, hbs, rfl⟩ := h
    obtain ⟨h1, h2⟩ := mapM_len hbs
    refine ⟨by simp [h1], fun i x hx => ?_⟩
    cases i with
    | zero => simp at hx; subst hx; simp [hb]
    | succ i => simp at hx; simp [h2 i x hx]
theorem cells_row {W : World} {b o n : Nat} {l : List Value} {C : Array Value} {e : TypeId} {fz : Nat × Nat} (hb : W.heap[b]? = some (.cells C e fz)) (h : W.cells? 0 ⟨b, o, none⟩ n = some l) : l = (C.toList.drop o).take n ∧ l.length = n ∧ (1 ≤ n → o + n ≤ C.size) := by
  unfold World.cells? at h
  rw [if_pos (Nat.zero_le _)] at h
  obtain ⟨h1, h2⟩ := mapM_len h
  rw [List.length_range] at h1
  have cell : ∀ j, j < n → C[o + j]? = l[j]? := fun j hj => by
    have := h2 j j (by simp [hj])
    rw [← this]
    have ha : (Addr.add ⟨b, o, none⟩ j) = ⟨b, o + j, none⟩ := by unfold Addr.add; split <;> simp_all
    rw [ha]
    unfold World.cell?
    rw [hb]; rfl
  refine ⟨?_, h1, fun hn => ?_⟩
  · apply List.ext_getElem?
    intro j
    by_cases hj : j < n
    · rw [← cell j hj, List.getElem?_take, if_pos hj, List.getElem?_drop, Array.getElem?_toList]
    · rw [List.getElem?_eq_none (by omega), List.getElem?_eq_none (by rw [List.length_take]; omega)]
  · have := cell (n - 1) (by omega)
    rw [List.getElem?_eq_getElem (show n - 1 < l.length by omega)] at this
    have := (Array.getElem?_eq_some_iff.1 this).1
    omega
theorem cell_block {W : World} {a : Addr} {n : Nat} {l : List Value} (hn : 1 ≤ n) (h : W.cells? 0 (a.add 0) n = some l) : ∃ b o C e fz, a = ⟨b, o, none⟩ ∧ W.heap[b]? = some (.cells C e fz) := by
  unfold World.cells? at h
  rw [if_pos (Nat.zero_le _)] at h
  obtain ⟨h1, h2⟩ := mapM_len h
  rw [List.length_range] at h1
  have := h2 0 0 (by rw [List.getElem?_range (by omega)])
  rw [List.getElem?_eq_getElem (show 0 < l.length by omega)] at this
  have ha : (a.add 0).add 0 = a := by unfold Addr.add; simp
  rw [ha] at this
  unfold World.cell? at this
  rcases hb : W.heap[a.block]? with _ | o
  · rw [hb] at this; simp at this
  · rw [hb] at this
    cases o with
    | cells C e fz =>
      refine ⟨a.block, a.off, C, e, fz, ?_, hb⟩
      cases hs : a.spot with
      | some s => simp [hs] at this
      | none => cases a; simp_all
    | _ => simp at this
theorem absC_sl {N b o l c : Nat} (hc : c ≠ 0) (hb : b < N) (hl : l ≤ c) : absC N (.slice (some ⟨b, o, none⟩) l c) = some (.slice (some ⟨b, o, none⟩) l (2 * c)) := by
  cases c with
  | zero => exact absurd rfl hc
  | succ c => simp [absC, hb, hl]
theorem sl_in {α : Type} {P : Program} {W : World} {t e : TypeId} {n : Nat} {cs : List Value} (R : α → List Value → Prop) (hn : P.cellsOf e = n) (h1 : 1 ≤ n)
    (hc : ∀ l, RdT P W e l → ∃ x l', absL W.heap.size l = some l' ∧ R x l') (h0 : ∃ z, W.cell? ⟨0, 0, none⟩ = some z) (ht : P.underlying t = some (.slice e)) (h : RdT P W t cs) :
    ∃ (v v' : Value) (xs : List α) (cs' : List Value), cs = [v] ∧ (v = .slice none 0 0 ∨ ∃ a len cap, v = .slice (some a) len cap) ∧ absC W.heap.size v = some v' ∧ SlAt (hIn W) n v' cs' ∧ cs'.length = xs.length * n ∧ ∀ (i : Nat) (x : α), xs[i]? = some x → R x ((cs'.drop (i * n)).take n) := by
  rcases RdT.slice ht h with rfl | ⟨a, len, cap, rfl, h2, h3, h4⟩
  · exact ⟨_, _, [], [], rfl, .inl rfl, rfl, .inl ⟨rfl, rfl⟩, by simp, fun i x hx => by simp at hx⟩
  · rw [hn] at h4
    by_cases hz : cap = 0
    · subst hz
      obtain rfl : len = 0 := by omega
      obtain ⟨z, hz⟩ := h0
      have hb : ∃ C e' fz, W.heap[0]? = some (.cells C e' fz) := by
        unfold World.cell? at hz
        rcases hb : W.heap[(0 : Nat)]? with _ | o
        · rw [hb] at hz; simp at hz
        · rw [hb] at hz
          cases o with
          | cells C e' fz => exact ⟨C, e', fz, rfl⟩
          | _ => simp at hz
      obtain ⟨C, e', fz, hb⟩ := hb
      have hlt : 0 < W.heap.size := (Array.getElem?_eq_some_iff.1 hb).1
      have hg : (hIn W).get 0 = some (.row (C.toList.map (absH W.heap.size)) e' .ro) := by rw [hIn_get, hb]; rfl
      refine ⟨_, .slice (some ⟨0, 0, none⟩) 0 0, [], [], rfl, .inr ⟨_, _, _, rfl⟩, ?_, .inr ⟨0, 0, 0, 0, _, rfl, Nat.le_refl _, hlt, rowOf_ro hg, by simp, by simp⟩, by simp, fun i x hx => by simp at hx⟩
      unfold absC
      simp [hlt]
    · obtain ⟨l0, hl0, _⟩ := h4 0 (by omega)
      rw [Nat.zero_mul] at hl0
      obtain ⟨b, o, C, e', fz, rfl, hb⟩ := cell_block h1 hl0
      have hlt : b < W.heap.size := (Array.getElem?_eq_some_iff.1 hb).1
      have hg : (hIn W).get b = some (.row (C.toList.map (absH W.heap.size)) e' .ro) := by rw [hIn_get, hb]; rfl
      have el : ∀ i, i < cap → ∃ x, o + i * n + n ≤ C.size ∧ R x (((C.toList.drop (o + i * n)).take n).map (absH W.heap.size)) := fun i hi => by
        obtain ⟨l, hl, hr⟩ := h4 i hi
        have ha : (Addr.add ⟨b, o, none⟩ (i * n)) = ⟨b, o + i * n, none⟩ := by unfold Addr.add; split <;> simp_all
        rw [ha] at hl
        obtain ⟨e1, e2, e3⟩ := cells_row hb hl
        obtain ⟨x, l', e4, e5⟩ := hc l hr
        refine ⟨x, e3 h1, ?_⟩
        rw [← e1, ← absL_map e4]; exact e5
      obtain ⟨xs, x1, x2⟩ := choose_list (R := fun i x => R x (((C.toList.drop (o + i * n)).take n).map (absH W.heap.size))) len fun i hi => by
        obtain ⟨x, _, h⟩ := el i (by omega); exact ⟨x, h⟩
      have hfit : o + len * n ≤ C.size ∨ len = 0 := by
        cases len with
        | zero => exact .inr rfl
        | succ m =>
          obtain ⟨_, h, _⟩ := el m (by omega)
          rw [Nat.add_mul]; omega
      have hclen : (((C.toList.map (absH W.heap.size)).drop o).take (len * n)).length = len * n := by
        rw [List.length_take, List.length_drop, List.length_map, Array.length_toList]
        rcases hfit with h | h
        · omega
        · subst h; simp
      refine ⟨_, .slice (some ⟨b, o, none⟩) len (2 * cap), xs, ((C.toList.map (absH W.heap.size)).drop o).take (len * n), rfl, .inr ⟨_, _, _, rfl⟩, ?_, .inr ⟨b, o, len, 2 * cap, _, rfl, by omega, hlt, rowOf_ro hg, hclen, rfl⟩, by rw [hclen, x1], fun i x hx => ?_⟩
      · exact absC_sl hz hlt h2
      · have hi : i < len := by have := (List.getElem?_eq_some_iff.1 hx).1; omega
        have := x2 i x hx
        rw [List.map_take, List.map_drop] at this
        rw [List.drop_take, List.take_take, List.drop_drop]
        have hm : min n (len * n - i * n) = n := by
          have : i * n + n ≤ len * n := by rw [← Nat.succ_mul]; exact Nat.mul_le_mul_right _ hi
          omega
        rw [hm]; exact this
end Go.Ev
