/- Texts joined: what the claim needs of them. No condition. -/
import Derived.Test.YtnkfjalhibdjcaaGreatDoorEvM2
import Derived.OpenShut
import Derived.Lib.Split
import Derived.Lib.Join
import Derived.Lib.Bytealg
import GoSem.Op.String
namespace Go.Ev
open Go
set_option linter.unusedSimpArgs false
set_option linter.unusedVariables false
def CallF.le (c d : CallF) : Prop := ∀ g a h r, c g a h = some r → d g a h = some r
theorem evEffCall_mono {P : Program} {c d : CallF} (hcd : c.le d) {fr : Fr} {k : Call} {h : Hp} {r : Value × Hp} (e : evEffCall P c fr k h = some r) : evEffCall P d fr k h = some r := by
  unfold evEffCall at e ⊢
  split at e
  · exact e
  · exact e
  · exact e
  · rename_i f _
    simp only [Option.bind_eq_some_iff] at e ⊢
    obtain ⟨v, h1, h2⟩ := e
    refine ⟨v, h1, ?_⟩
    split at h2
    · rw [Option.bind_eq_some_iff] at h2 ⊢
      obtain ⟨vs, h3, h4⟩ := h2
      exact ⟨vs, h3, hcd _ _ _ _ h4⟩
    · cases h2
  · cases e
theorem evEff_mono {P : Program} {c d : CallF} (hcd : c.le d) {fr : Fr} {o : Oper} {h : Hp} {r : Value × Hp} (e : evEff P c fr o h = some r) : evEff P d fr o h = some r := by
  unfold evEff at e ⊢
  split at e
  · exact e
  · exact e
  · exact e
  · exact evEffCall_mono hcd e
  · cases e
theorem evOp_mono {P : Program} {c d : CallF} (hcd : c.le d) {fr : Fr} {o : Oper} {h : Hp} {r : Value × Hp} (e : evOp P c fr o h = some r) : evOp P d fr o h = some r := by
  unfold evOp at e ⊢
  split at e
  · exact e
  · exact e
  · exact e
  · exact evEff_mono hcd e
theorem evOps_mono {P : Program} {c d : CallF} (hcd : c.le d) {ops : Array Oper} : ∀ (l : List Oper) {fr : Fr} {h : Hp} {r : Fr × Hp}, evOps P c ops l fr h = some r → evOps P d ops l fr h = some r
  | [], _, _, _, e => e
  | o :: rest, fr, h, r, e => by
    unfold evOps at e ⊢
    split at e
    · split at e
      · rename_i v h' h1
        rw [evOp_mono hcd h1]
        exact evOps_mono hcd rest e
      · cases e
    · exact evOps_mono hcd rest e
    · cases e
theorem trcStep_mono {P : Program} {c d : CallF} (hcd : c.le d) {ops : Array Oper} {s s' : Trc} {j : Nat} (e : trcStep P c ops s j = some s') : trcStep P d ops s j = some s' := by
  unfold trcStep at e ⊢
  split at e
  · cases e
  · split at e
    · cases e
    · exact e
    · split at e
      · cases e
      · rename_i v h' h1
        rw [evOp_mono hcd h1]
        exact e
theorem trc_mono {P : Program} {c d : CallF} (hcd : c.le d) {ops : Array Oper} : ∀ (l : List Nat) {s s' : Trc}, trc P c ops l s = some s' → trc P d ops l s = some s'
  | [], _, _, e => e
  | j :: l, s, s', e => by
    unfold trc at e ⊢
    split at e
    · rename_i s1 h1
      rw [trcStep_mono hcd h1]
      exact trc_mono hcd l e
    · cases e
theorem evDraw_mono {P : Program} {c d : CallF} (hcd : c.le d) {n m : Nat} {ops : Array Oper} {fr : Fr} {h : Hp} {r : Fr × Hp} (e : evDraw P c n ops fr h = some r) : evDraw P d m ops fr h = some r := by
  unfold evDraw at e ⊢
  split at e
  · rename_i s h1
    rw [trc_mono hcd _ h1]
    exact e
  · cases e
theorem iter_mono {b b' : Fr → Hp → Res} (hb : ∀ fr h r, b fr h = some r → b' fr h = some r) : ∀ (n : Nat) {m : Nat} {fr : Fr} {h : Hp} {r : Ex × Fr × Hp}, n ≤ m → iter b n fr h = some r → iter b' m fr h = some r
  | 0, _, _, _, _, _, e => by cases e
  | n + 1, 0, _, _, _, hm, _ => by omega
  | n + 1, m + 1, fr, h, r, hm, e => by
    unfold iter at e ⊢
    split at e
    · rename_i fr1 h1 e1
      rw [hb _ _ _ e1]
      exact iter_mono hb n (by omega) e
    · rename_i hne
      rw [hb _ _ _ e]
      split
      · rename_i h2
        cases h2
        exact absurd e (hne _ _)
      · rfl
theorem evCode_mono {P : Program} {c d : CallF} (hcd : c.le d) {n m : Nat} (hn : n ≤ m) : ∀ (k : Code) {fr : Fr} {h : Hp} {r : Ex × Fr × Hp}, evCode P c (evDraw P c) n k fr h = some r → evCode P d (evDraw P d) m k fr h = some r
  | .skip, _, _, _, e => e
  | .region id ops draw, fr, h, r, e => by
    unfold evCode at e ⊢
    cases draw with
    | true =>
      simp only [cond_true] at e ⊢
      split at e
      · rename_i h1; rw [evDraw_mono hcd h1]; exact e
      · cases e
    | false =>
      simp only [cond_false] at e ⊢
      split at e
      · rename_i h1; rw [evOps_mono hcd _ h1]; exact e
      · cases e
  | .seq a b, fr, h, r, e => by
    unfold evCode at e ⊢
    split at e
    · rename_i h1; rw [evCode_mono hcd hn a h1]; exact evCode_mono hcd hn b e
    · rename_i hne
      rw [evCode_mono hcd hn a e]
      split
      · rename_i h2
        cases h2
        exact absurd e (hne _ _)
      · rfl
  | .cond x a b, fr, h, r, e => by
    unfold evCode at e ⊢
    split at e
    · exact evCode_mono hcd hn a e
    · exact evCode_mono hcd hn b e
    · cases e
  | .block id a, fr, h, r, e => by
    unfold evCode at e ⊢
    split at e
    · rename_i h1; rw [evCode_mono hcd hn a h1]; exact e
    · rename_i hne
      rw [evCode_mono hcd hn a e]
      split
      · rename_i h2
        cases h2
        exact absurd e (hne _ _ _)
      · rfl
  | .loop a, fr, h, r, e => by
    unfold evCode at e ⊢
    exact iter_mono (fun fr h r => evCode_mono hcd hn a) n hn e
  | .exit id, _, _, _, e => e
  | .ret, _, _, _, e => e
  | .rangeFunc .., _, _, _, e => by unfold evCode at e; cases e
  | .scope _, _, _, _, e => by unfold evCode at e; cases e
  | .label _, _, _, _, e => by unfold evCode at e; cases e
  | .goto _, _, _, _, e => by unfold evCode at e; cases e
theorem evCall_mono (C : Ctx) : ∀ {n m : Nat}, n ≤ m → CallF.le (evCall C n) (evCall C m)
  | 0, _, _ => fun _ _ _ _ e => by cases e
  | n + 1, 0, hm => by omega
  | n + 1, m + 1, hm => fun g a h r e => by
    have ih := evCall_mono C (show n ≤ m by omega)
    unfold evCall at e ⊢
    split at e
    · exact e
    · cases hmask : C.mask.testBit g with
      | false => rw [hmask] at e; simp at e
      | true =>
        rw [hmask] at e
        simp only [Bool.not_true, cond_false] at e ⊢
        split at e
        · split at e
          · rename_i fn _ _ c _
            cases hc : evCode C.P (evCall C n) (evDraw C.P (evCall C n)) n c (Tr.ofList a 0 .e) h with
            | none => rw [hc] at e; cases e
            | some q => rw [hc] at e; rw [evCode_mono ih (by omega) c hc]; exact e
          · cases e
        · cases e
def Ret (C : Ctx) (f : FuncId) (args : List Value) (h : Hp) (v : Value) (h' : Hp) : Prop := ∃ n, evCall C n f args h = some (v, h')
def Wp (C : Ctx) (k : Code) (fr : Fr) (h : Hp) (Q : Ex → Fr → Hp → Prop) : Prop := ∃ n e fr' h', evCode C.P (evCall C n) (evDraw C.P (evCall C n)) n k fr h = some (e, fr', h') ∧ Q e fr' h'
def WpO (C : Ctx) (ops : Array Oper) (l : List Oper) (fr : Fr) (h : Hp) (Q : Fr → Hp → Prop) : Prop := ∃ n fr' h', evOps C.P (evCall C n) ops l fr h = some (fr', h') ∧ Q fr' h'
def WpP (C : Ctx) (o : Oper) (fr : Fr) (h : Hp) (Q : Value → Hp → Prop) : Prop := ∃ n v h', evOp C.P (evCall C n) fr o h = some (v, h') ∧ Q v h'
variable {C : Ctx}
theorem Ret.det {f : FuncId} {args : List Value} {h : Hp} {v v2 : Value} {h1 h2 : Hp} (a : Ret C f args h v h1) (b : Ret C f args h v2 h2) : v = v2 ∧ h1 = h2 := by
  obtain ⟨n, a⟩ := a
  obtain ⟨m, b⟩ := b
  have a' := evCall_mono C (Nat.le_max_left n m) _ _ _ _ a
  have b' := evCall_mono C (Nat.le_max_right n m) _ _ _ _ b
  rw [a'] at b'
  simpa using b'
theorem Wp.mono {k : Code} {fr : Fr} {h : Hp} {Q R : Ex → Fr → Hp → Prop} (a : Wp C k fr h Q) (hq : ∀ e fr h, Q e fr h → R e fr h) : Wp C k fr h R := by
  obtain ⟨n, e, fr', h', h1, h2⟩ := a
  exact ⟨n, e, fr', h', h1, hq _ _ _ h2⟩
theorem Wp.skip {fr : Fr} {h : Hp} {Q : Ex → Fr → Hp → Prop} (q : Q .norm fr h) : Wp C .skip fr h Q := ⟨0, _, _, _, rfl, q⟩
theorem Wp.ret {fr : Fr} {h : Hp} {Q : Ex → Fr → Hp → Prop} (q : Q .ret fr h) : Wp C .ret fr h Q := ⟨0, _, _, _, rfl, q⟩
theorem Wp.exit {i : Nat} {fr : Fr} {h : Hp} {Q : Ex → Fr → Hp → Prop} (q : Q (.exit i) fr h) : Wp C (.exit i) fr h Q := ⟨0, _, _, _, rfl, q⟩
theorem Wp.seq {a b : Code} {fr : Fr} {h : Hp} {Q : Ex → Fr → Hp → Prop} (w : Wp C a fr h fun e fr h => match e with
    | .norm => Wp C b fr h Q
    | e => Q e fr h) : Wp C (.seq a b) fr h Q := by
  obtain ⟨n, e, fr', h', h1, h2⟩ := w
  cases e with
  | norm =>
    obtain ⟨m, e2, fr2, h2', h3, h4⟩ := h2
    refine ⟨max n m, e2, fr2, h2', ?_, h4⟩
    unfold evCode
    rw [evCode_mono (evCall_mono C (Nat.le_max_left n m)) (Nat.le_max_left n m) a h1]
    exact evCode_mono (evCall_mono C (Nat.le_max_right n m)) (Nat.le_max_right n m) b h3
  | exit i => exact ⟨n, _, _, _, by unfold evCode; rw [h1], h2⟩
  | ret => exact ⟨n, _, _, _, by unfold evCode; rw [h1], h2⟩
theorem Wp.cond {x : Operand} {a b : Code} {fr : Fr} {h : Hp} {Q : Ex → Fr → Hp → Prop} {c : Bool} (hc : ev1 fr x = some (.bool c)) (w : bif c then Wp C a fr h Q else Wp C b fr h Q) : Wp C (.cond x a b) fr h Q := by
  cases c with
  | true =>
    obtain ⟨n, e, fr', h', h1, h2⟩ := w
    exact ⟨n, _, _, _, by unfold evCode; rw [hc]; exact h1, h2⟩
  | false =>
    obtain ⟨n, e, fr', h', h1, h2⟩ := w
    exact ⟨n, _, _, _, by unfold evCode; rw [hc]; exact h1, h2⟩
theorem Wp.block {i : Nat} {a : Code} {fr : Fr} {h : Hp} {Q : Ex → Fr → Hp → Prop} (w : Wp C a fr h fun e fr h => match e with
    | .exit j => bif Nat.beq j i then Q .norm fr h else Q (.exit j) fr h
    | e => Q e fr h) : Wp C (.block i a) fr h Q := by
  obtain ⟨n, e, fr', h', h1, h2⟩ := w
  cases e with
  | norm => exact ⟨n, _, _, _, by unfold evCode; rw [h1], h2⟩
  | ret => exact ⟨n, _, _, _, by unfold evCode; rw [h1], h2⟩
  | exit j =>
    cases hj : Nat.beq j i with
    | true => simp only [hj, cond_true] at h2; exact ⟨n, _, _, _, by unfold evCode; rw [h1]; simp only [hj, cond_true], h2⟩
    | false => simp only [hj, cond_false] at h2; exact ⟨n, _, _, _, by unfold evCode; rw [h1]; simp only [hj, cond_false], h2⟩
theorem Wp.loop {a : Code} {Q : Ex → Fr → Hp → Prop} (I : Nat → Fr → Hp → Prop)
    (step : ∀ k fr h, I k fr h → Wp C a fr h fun e fr h => match e with
      | .norm => ∃ j, j < k ∧ I j fr h
      | e => Q e fr h) : ∀ (k : Nat) {fr : Fr} {h : Hp}, I k fr h → Wp C (.loop a) fr h Q := by
  intro k
  induction k using Nat.strongRecOn with
  | _ k ih =>
    intro fr h i
    obtain ⟨n, e, fr', h', h1, h2⟩ := step k fr h i
    have key : ∀ q e, (∀ fr h, e ≠ (Ex.norm, fr, h)) → evCode C.P (evCall C n) (evDraw C.P (evCall C n)) n a fr h = some e → n ≤ q → evCode C.P (evCall C (q + 1)) (evDraw C.P (evCall C (q + 1))) (q + 1) (.loop a) fr h = some e := by
      intro q e hne h1 hq
      unfold evCode iter
      rw [evCode_mono (evCall_mono C (show n ≤ q + 1 by omega)) (show n ≤ q + 1 by omega) a h1]
      split
      · rename_i h2; cases h2; exact absurd rfl (hne _ _)
      · rfl
    cases e with
    | norm =>
      obtain ⟨j, hj, i2⟩ := h2
      obtain ⟨m, e2, fr2, h2', h3, h4⟩ := ih j hj i2
      refine ⟨max n m + 1, e2, fr2, h2', ?_, h4⟩
      have h1' := evCode_mono (evCall_mono C (show n ≤ max n m + 1 by omega)) (show n ≤ max n m + 1 by omega) a h1
      unfold evCode at h3 ⊢
      unfold iter
      rw [h1']
      exact iter_mono (fun fr h r => evCode_mono (evCall_mono C (show m ≤ max n m + 1 by omega)) (show m ≤ max n m + 1 by omega) a) m (by omega) h3
    | exit j => exact ⟨n + 1, _, _, _, key n _ (fun _ _ h => by cases h) h1 (Nat.le_refl _), h2⟩
    | ret => exact ⟨n + 1, _, _, _, key n _ (fun _ _ h => by cases h) h1 (Nat.le_refl _), h2⟩
theorem Wp.region {i : Nat} {ops : Array Oper} {fr : Fr} {h : Hp} {Q : Ex → Fr → Hp → Prop} (w : WpO C ops ops.toList fr h fun fr h => Q .norm fr h) : Wp C (.region i ops false) fr h Q := by
  obtain ⟨n, fr', h', h1, h2⟩ := w
  exact ⟨n, _, _, _, by unfold evCode; simp only [cond_false, h1], h2⟩
theorem WpO.nil {ops : Array Oper} {fr : Fr} {h : Hp} {Q : Fr → Hp → Prop} (q : Q fr h) : WpO C ops [] fr h Q := ⟨0, _, _, rfl, q⟩
theorem WpO.cons {ops : Array Oper} {o : Oper} {l : List Oper} {fr : Fr} {h : Hp} {Q : Fr → Hp → Prop} {b : Bool} (hb : evWanted ops fr o = some b)
    (w : bif b then WpP C o fr h (fun v h => WpO C ops l (put fr o.dst v) h Q) else WpO C ops l (put fr o.dst undef) h Q) : WpO C ops (o :: l) fr h Q := by
  cases b with
  | true =>
    obtain ⟨n, v, h', h1, m, fr2, h2, h3, h4⟩ := w
    refine ⟨max n m, fr2, h2, ?_, h4⟩
    unfold evOps
    rw [hb]
    simp only
    rw [evOp_mono (evCall_mono C (Nat.le_max_left n m)) h1]
    exact evOps_mono (evCall_mono C (Nat.le_max_right n m)) l h3
  | false =>
    obtain ⟨n, fr2, h2, h3, h4⟩ := w
    exact ⟨n, fr2, h2, by unfold evOps; rw [hb]; exact h3, h4⟩
theorem WpP.op {o : Oper} {fr : Fr} {h : Hp} {Q : Value → Hp → Prop} {v : Value} {h' : Hp} (e : ∀ call, evOp C.P call fr o h = some (v, h')) (q : Q v h') : WpP C o fr h Q := ⟨0, _, _, e _, q⟩
theorem WpP.call {o : Oper} {k : Call} {g : FuncId} {fr : Fr} {h h' : Hp} {Q : Value → Hp → Prop} {vs : List Value} {v : Value} (ho : o.op = .call k) (hk : k.callee = .value (.func g)) (ha : evs fr k.args.toList = some vs)
    (r : Ret C g vs h v h') (q : Q v h') : WpP C o fr h Q := by
  obtain ⟨n, r⟩ := r
  refine ⟨n, v, h', ?_, q⟩
  have hkd : kindOf C.P o = .eff := by unfold kindOf; rw [ho]; simp only [hk]
  unfold evOp
  rw [hkd]
  simp only [evEff, ho, evEffCall, hk, ev1, Option.bind_some, ha, List.append_nil, List.nil_append]
  exact r
theorem Ret.mk {f : FuncId} {fn : Func} {c : Code} {args : List Value} {h h' : Hp} {v : Value} (hS : C.S f = none) (hm : C.mask.testBit f = true) (hf : C.P.funcs[f]? = some fn) (hc : fn.body = some c)
    (w : Wp C c (Tr.ofList args 0 .e) h fun e fr h1 => e = .ret ∧ h1 = h' ∧ (evResults C.P fr h1 fn.results.toList).map tupled = some v) : Ret C f args h v h' := by
  obtain ⟨n, e, fr, h1, h2, rfl, rfl, h3⟩ := w
  obtain ⟨vs, h4, h5⟩ := Option.map_eq_some_iff.1 h3
  refine ⟨n + 1, ?_⟩
  unfold evCall
  rw [hS]
  simp only [hm, Bool.not_true, cond_false, hf, hc, h2, h4, Option.map_some, h5]
theorem Ret.sum {f : FuncId} {s : List Value → Hp → Option (Value × Hp)} {args : List Value} {h h' : Hp} {v : Value} (hS : C.S f = some s) (e : s args h = some (v, h')) : Ret C f args h v h' :=
  ⟨1, by unfold evCall; rw [hS]; exact e⟩
end Go.Ev
namespace Go.Ev
open Go
set_option linter.unusedSimpArgs false
set_option linter.unusedVariables false
variable {C : Ctx}
section
variable {P : Program} {t : TypeId} {xo yo : Operand} {k : IntKind} {a b : Int}
theorem evBin_int (op : BinOp) : evBin P op t xo yo (.int k a) (.int k b) = prunS P (binOp op t (.int k a) (.int k b)) := by
  cases op <;> rfl
theorem evBin_lss : evBin P .lss t xo yo (.int k a) (.int k b) = some (.bool (decide (a < b))) := by rw [evBin_int]; simp [prunS, binOp, Op.intCmp]; rfl
theorem evBin_leq : evBin P .leq t xo yo (.int k a) (.int k b) = some (.bool (decide (a ≤ b))) := by rw [evBin_int]; simp [prunS, binOp, Op.intCmp]; rfl
theorem evBin_gtr : evBin P .gtr t xo yo (.int k a) (.int k b) = some (.bool (decide (b < a))) := by rw [evBin_int]; simp [prunS, binOp, Op.intCmp]; rfl
theorem evBin_geq : evBin P .geq t xo yo (.int k a) (.int k b) = some (.bool (decide (b ≤ a))) := by rw [evBin_int]; simp [prunS, binOp, Op.intCmp]; rfl
theorem evBin_eql : evBin P .eql t xo yo (.int k a) (.int k b) = some (.bool (a == b)) := by rw [evBin_int]; simp [prunS, binOp, Op.intCmp]; rfl
theorem evBin_neq : evBin P .neq t xo yo (.int k a) (.int k b) = some (.bool (a != b)) := by rw [evBin_int]; simp [prunS, binOp, Op.intCmp]; rfl
theorem evBin_add : evBin P .add t xo yo (.int k a) (.int k b) = some (.int k (k.wrap (a + b))) := by rw [evBin_int]; simp [prunS, binOp, Op.intArith]; rfl
theorem evBin_sub : evBin P .sub t xo yo (.int k a) (.int k b) = some (.int k (k.wrap (a - b))) := by rw [evBin_int]; simp [prunS, binOp, Op.intArith]; rfl
theorem evBin_mul : evBin P .mul t xo yo (.int k a) (.int k b) = some (.int k (k.wrap (a * b))) := by rw [evBin_int]; simp [prunS, binOp, Op.intArith]; rfl
end
end Go.Ev
namespace Go.Ev
open Go
set_option linter.unusedSimpArgs false
set_option linter.unusedVariables false
def onSome {α : Type} (x : Option α) (f : α → Prop) : Prop := ∃ a, x = some a ∧ f a
variable {C : Ctx}
section
variable {d : Option Tmp} {ty ty' : TypeId} {p : String} {af : Array Edge} {g : Option (Nat × Bool)} {fr : Fr} {h : Hp} {Q : Value → Hp → Prop}
def callP (C : Ctx) (f : FuncId) (h : Hp) (Q : Value → Hp → Prop) (vs : List Value) : Prop := ∃ v h', Ret C f vs h v h' ∧ Q v h'
theorem callP_of {f : FuncId} {vs : List Value} {v : Value} {h' : Hp} (r : Ret C f vs h v h') : callP C f h Q vs = Q v h' :=
  propext ⟨fun ⟨v2, h2, r2, q⟩ => by obtain ⟨rfl, rfl⟩ := r.det r2; exact q, fun q => ⟨v, h', r, q⟩⟩
end
end Go.Ev
namespace Go.Ev
open Go
set_option linter.unusedSimpArgs false
set_option linter.unusedVariables false
theorem all2_refl {f : Value → Value → Bool} : ∀ l : List Value, (∀ a ∈ l, f a a = true) → veqF.all2 f l l = true
  | [], _ => rfl
  | a :: l, h => by
    simp only [veqF.all2, h a (List.mem_cons_self ..), Bool.true_and]
    exact all2_refl l fun b hb => h b (List.mem_cons_of_mem _ hb)
theorem veqF_refl : ∀ (n : Nat) (v : Value), SizeOf.sizeOf v ≤ n → veqF n v v = true := by
  intro n
  induction n with
  | zero => intro v hv; cases v <;> simp at hv <;> (try omega)
  | succ n ih =>
    intro v hv
    have arr : ∀ (c : Array Value), SizeOf.sizeOf c ≤ n → ∀ a ∈ c.toList, veqF n a a = true := fun c hc a ha => ih a (by
      have h1 := List.sizeOf_lt_of_mem ha
      have h2 : SizeOf.sizeOf c.toList < SizeOf.sizeOf c := by cases c; simp
      omega)
    cases v with
    | agg c => simp only [Value.agg.sizeOf_spec] at hv; simp only [veqF]; exact all2_refl _ (arr c (by omega))
    | tuple c => simp only [Value.tuple.sizeOf_spec] at hv; simp only [veqF]; exact all2_refl _ (arr c (by omega))
    | func f a c => simp only [Value.func.sizeOf_spec] at hv; simp only [veqF]; rw [all2_refl _ (arr a (by omega)), all2_refl _ (arr c (by omega))]; simp
    | iface t v => simp only [Value.iface.sizeOf_spec] at hv; simp only [veqF]; rw [ih v (by omega)]; simp
    | _ => simp [veqF]
theorem veq_refl (v : Value) : veq v v = true := veqF_refl _ v (Nat.le_refl _)
variable {C : Ctx}
end Go.Ev
namespace Go.Ev
open Go
set_option linter.unusedSimpArgs false
set_option linter.unusedVariables false
variable {C : Ctx}
def Meets (C : Ctx) (f : FuncId) (args : List Value) (h : Hp) (Post : Value → Hp → Prop) : Prop := ∃ v h', Ret C f args h v h' ∧ Post v h'
theorem Meets.mono {f : FuncId} {args : List Value} {h : Hp} {P Q : Value → Hp → Prop} (s : Meets C f args h P) (k : ∀ v h', P v h' → Q v h') : Meets C f args h Q := by
  obtain ⟨v, h', r, p⟩ := s; exact ⟨v, h', r, k _ _ p⟩
theorem Meets.ret {f : FuncId} {args : List Value} {h h' : Hp} {v : Value} (s : Meets C f args h fun u k => u = v ∧ k = h') : Ret C f args h v h' := by
  obtain ⟨v, h', r, rfl, rfl⟩ := s; exact r
theorem Meets.call {f : FuncId} {args : List Value} {h h' : Hp} {v : Value} (s : Meets C f args h fun u k => u = v ∧ k = h') (Q : Value → Hp → Prop) : callP C f h Q args = Q v h' := callP_of s.ret
def doneR (Post : Value → Hp → Prop) (h : Hp) (vs : List Value) : Prop := Post (tupled vs) h
def endP (C : Ctx) (rs : List ResultVar) (Post : Value → Hp → Prop) : Ex → Fr → Hp → Prop
  | .exit _, _, _ => False
  | .norm, fr, h => onSome (evResults C.P fr h rs) (doneR Post h)
  | .ret, fr, h => onSome (evResults C.P fr h rs) (doneR Post h)
theorem Meets.mk {f : FuncId} {fn : Func} {c : Code} {rs : List ResultVar} {args : List Value} {h : Hp} {Post : Value → Hp → Prop} (hS : C.S f = none) (hm : C.mask.testBit f = true) (hf : C.P.funcs[f]? = some fn) (hc : fn.body = some c)
    (hr : fn.results.toList = rs) (w : Wp C c (Tr.ofList args 0 .e) h (endP C rs Post)) : Meets C f args h Post := by
  obtain ⟨n, e, fr, h1, h2, h3⟩ := w
  subst hr
  cases e with
  | exit i => exact h3.elim
  | norm =>
    obtain ⟨vs, h4, h5⟩ := h3
    exact ⟨tupled vs, h1, ⟨n + 1, by unfold evCall; rw [hS]; simp only [hm, Bool.not_true, cond_false, hf, hc, h2, h4, Option.map_some]⟩, h5⟩
  | ret =>
    obtain ⟨vs, h4, h5⟩ := h3
    exact ⟨tupled vs, h1, ⟨n + 1, by unfold evCall; rw [hS]; simp only [hm, Bool.not_true, cond_false, hf, hc, h2, h4, Option.map_some]⟩, h5⟩
namespace Hp
theorem get_set_self (h : Hp) (b : Nat) (o : Ob) : (h.set b o).get b = some o := by rw [get_set, if_pos rfl]
theorem get_set_ne {h : Hp} {b : Nat} {o : Ob} {c : Nat} (e : c ≠ b) : (h.set b o).get c = h.get c := by rw [get_set, if_neg e]
theorem get_push_self (h : Hp) (o : Ob) : (h.push o).get h.next = some o := by rw [get_push, if_pos rfl]
theorem get_push_lt {h : Hp} {o : Ob} {c : Nat} (e : c < h.next) : (h.push o).get c = h.get c := by rw [get_push, if_neg (by omega)]
end Hp
theorem rowOf_eq {h k : Hp} {b : Nat} (e : h.get b = k.get b) : rowOf h b = rowOf k b := by unfold rowOf; rw [e]
def Keep (h h' : Hp) : Prop := h.next ≤ h'.next ∧ ∀ b, b < h.next → h'.get b = h.get b
theorem Keep.refl (h : Hp) : Keep h h := ⟨Nat.le_refl _, fun _ _ => rfl⟩
theorem Keep.trans {a b c : Hp} (x : Keep a b) (y : Keep b c) : Keep a c := ⟨Nat.le_trans x.1 y.1, fun k hk => (y.2 k (Nat.lt_of_lt_of_le hk x.1)).trans (x.2 k hk)⟩
theorem Keep.push (h : Hp) (o : Ob) : Keep h (h.push o) := ⟨Nat.le_succ _, fun _ hb => Hp.get_push_lt hb⟩
theorem Keep.set {h h' : Hp} (k : Keep h h') {b : Nat} {o : Ob} (hb : h.next ≤ b) : Keep h (h'.set b o) := ⟨k.1, fun c hc => by rw [Hp.get_set_ne (by omega)]; exact k.2 c hc⟩
end Go.Ev
namespace Go.Ev
open Go
set_option linter.unusedSimpArgs false
set_option linter.unusedVariables false
structure KR (b : Bool) : Prop where
  eq : b = true
section
variable {P : Program} {ops : Array Oper} {call : CallF}
structure OrdInv (P : Program) (ops : Array Oper) (a : Nat) (s : Trc) : Prop where
  dn : ∀ e ∈ s.done, e < a ∧ kindAt P ops e = .eff
  lt : ∀ d h, (d, h) ∈ s.bs → ∀ e ∈ d, e < a
  bs : ∀ d h, (d, h) ∈ s.bs → (d = s.done ∧ h = s.h) ∨ ∃ e ∈ s.done, e ∉ d
  ri : ∀ i fr v, (i, fr, v) ∈ s.rs → i < a ∧ kindAt P ops i = .read
  rs : ∀ i fr v, (i, fr, v) ∈ s.rs → ∀ d h, (d, h) ∈ s.bs → adm (Region.before ops) ((List.range ops.size).filter fun j => kindAt P ops j == .eff) i d = true → ∃ o, ops[i]? = some o ∧ evReadOrPure P fr o h = some v
theorem OrdInv.pure {a : Nat} {s : Trc} (I : OrdInv P ops a s) (fr : Fr) : OrdInv P ops (a + 1) { s with fr := fr } :=
  ⟨fun e he => ⟨by have := (I.dn e he).1; omega, (I.dn e he).2⟩, fun d h hd e he => by have := I.lt d h hd e he; omega, I.bs, fun i f v hm => ⟨by have := (I.ri i f v hm).1; omega, (I.ri i f v hm).2⟩, I.rs⟩
theorem OrdInv.eff {a : Nat} {s : Trc} (I : OrdInv P ops a s) (hk : kindAt P ops a = .eff) (ha : a < ops.size)
    (hs : ∀ i, i < a → kindAt P ops i = .read → bit (Region.before ops) a i = true) (fr : Fr) (h1 : Hp) :
    OrdInv P ops (a + 1) { fr := fr, h := h1, done := a :: s.done, bs := (a :: s.done, h1) :: s.bs, rs := s.rs } := by
  refine ⟨fun e he => ?_, fun d h hd e he => ?_, fun d h hd => ?_, fun i f v hm => ⟨by have := (I.ri i f v hm).1; omega, (I.ri i f v hm).2⟩, fun i f v hm d h hd had => ?_⟩
  · rcases List.mem_cons.1 he with rfl | he
    · exact ⟨by omega, hk⟩
    · exact ⟨by have := (I.dn e he).1; omega, (I.dn e he).2⟩
  · rcases List.mem_cons.1 hd with hd | hd
    · simp only [Prod.mk.injEq] at hd
      obtain ⟨rfl, rfl⟩ := hd
      rcases List.mem_cons.1 he with rfl | he
      · omega
      · have := (I.dn e he).1; omega
    · have := I.lt d h hd e he; omega
  · rcases List.mem_cons.1 hd with hd | hd
    · simp only [Prod.mk.injEq] at hd
      exact .inl hd
    · exact .inr ⟨a, List.mem_cons_self .., fun hm => by have := I.lt d h hd a hm; omega⟩
  · rcases List.mem_cons.1 hd with hd | hd
    · simp only [Prod.mk.injEq] at hd
      obtain ⟨rfl, rfl⟩ := hd
      obtain ⟨h1, h2⟩ := I.ri i f v hm
      have hb := hs i h1 h2
      unfold adm at had
      simp only [Bool.and_eq_true, List.all_eq_true] at had
      have := had.2 a (List.mem_cons_self ..)
      rw [hb] at this; cases this
    · exact I.rs i f v hm d h hd had
theorem OrdInv.read {a : Nat} {s : Trc} (I : OrdInv P ops a s) {o : Oper} (ho : ops[a]? = some o) (hk : kindAt P ops a = .read) (ha : a < ops.size)
    (hs : ∀ e, e < a → kindAt P ops e = .eff → bit (Region.before ops) a e = true) {v : Value} (hv : evReadOrPure P s.fr o s.h = some v) (fr : Fr) :
    OrdInv P ops (a + 1) { s with fr := fr, rs := (a, s.fr, v) :: s.rs } := by
  refine ⟨fun e he => ⟨by have := (I.dn e he).1; omega, (I.dn e he).2⟩, fun d h hd e he => by have := I.lt d h hd e he; omega, I.bs, fun i f u hm => ?_, fun i f u hm d h hd had => ?_⟩
  · rcases List.mem_cons.1 hm with hm | hm
    · simp only [Prod.mk.injEq] at hm
      obtain ⟨rfl, rfl, rfl⟩ := hm
      exact ⟨by omega, hk⟩
    · exact ⟨by have := (I.ri i f u hm).1; omega, (I.ri i f u hm).2⟩
  · rcases List.mem_cons.1 hm with hm | hm
    · simp only [Prod.mk.injEq] at hm
      obtain ⟨rfl, rfl, rfl⟩ := hm
      rcases I.bs d h hd with ⟨_, rfl⟩ | ⟨e, he, hne⟩
      · exact ⟨o, ho, hv⟩
      · obtain ⟨h1, h2⟩ := I.dn e he
        have hb := hs e h1 h2
        unfold adm at had
        simp only [Bool.and_eq_true, List.all_eq_true] at had
        have := had.1 e (List.mem_filter.2 ⟨List.mem_range.2 (by omega), by rw [h2]; rfl⟩)
        rw [hb] at this
        simp at this
        exact absurd this hne
    · exact I.rs i f u hm d h hd had
end
end Go.Ev
namespace Go.Ev
open Go
set_option linter.unusedSimpArgs false
set_option linter.unusedVariables false
variable {C : Ctx}
theorem Keep.row {h h' : Hp} (k : Keep h h') {b : Nat} (hb : b < h.next) : rowOf h' b = rowOf h b := rowOf_eq (k.2 b hb)
end Go.Ev
namespace Go.Ev
open Go
set_option linter.unusedSimpArgs false
set_option linter.unusedVariables false
def flagB (P : Program) (ops : Array Oper) (j f : Nat) : Bool :=
  let ms := Region.before ops
  match f with
  | 0 => kindAt P ops j == .pure
  | 1 => kindAt P ops j == .read
  | 2 => kindAt P ops j == .new
  | 3 => kindAt P ops j == .eff
  | 4 => kindAt P ops j == .eff && (List.range ops.size).all fun i => !(kindAt P ops i == .read) || (bif decide (j < i) then bit ms i j else bit ms j i)
  | _ => false
variable {C : Ctx}
abbrev Rd := Fr × Oper × Value
def sameAt (P : Program) (o : Oper) (fr : Fr) (v : Value) : List Hp → Prop
  | [] => True
  | h :: hs => evReadOrPure P fr o h = some v ∧ sameAt P o fr v hs
section
variable {P : Program} {ops : Array Oper} {call : CallF}
structure DrInv (P : Program) (ops : Array Oper) (a : Nat) (s : Trc) (hs : List Hp) (rs : List Rd) : Prop where
  dn : ∀ e ∈ s.done, e < a
  ef : ∀ e ∈ s.done, kindAt P ops e = .eff ∧ e < ops.size
  lt : ∀ d h, (d, h) ∈ s.bs → ∀ e ∈ d, e < a
  /-- each heap is one of the window, or an ordered effect stands between -/
  bs : ∀ d h, (d, h) ∈ s.bs → h ∈ hs ∨ ∃ e ∈ s.done, e ∉ d ∧ flagB P ops e 4 = true
  ri : ∀ i fr v, (i, fr, v) ∈ s.rs → i < a ∧ i < ops.size ∧ kindAt P ops i = .read
  /-- each read is one of the window, or an ordered effect came behind it -/
  rw_ : ∀ i fr v, (i, fr, v) ∈ s.rs → (∃ o, ops[i]? = some o ∧ (fr, o, v) ∈ rs) ∨ ∃ e ∈ s.done, i < e ∧ flagB P ops e 4 = true
  rs : ∀ i fr v, (i, fr, v) ∈ s.rs → ∀ d h, (d, h) ∈ s.bs → adm (Region.before ops) ((List.range ops.size).filter fun j => kindAt P ops j == .eff) i d = true → ∃ o, ops[i]? = some o ∧ evReadOrPure P fr o h = some v
theorem flag4 {e i : Nat} (h : flagB P ops e 4 = true) (hi : i < ops.size) (hk : kindAt P ops i = .read) : (e < i → bit (Region.before ops) i e = true) ∧ (i ≤ e → bit (Region.before ops) e i = true) := by
  unfold flagB at h
  simp only [Bool.and_eq_true, List.all_eq_true, Bool.or_eq_true, Bool.not_eq_true', beq_eq_false_iff_ne, List.mem_range] at h
  rcases h.2 i hi with h1 | h1
  · exact absurd hk h1
  · refine ⟨fun hlt => ?_, fun hle => ?_⟩
    · rw [decide_eq_true hlt] at h1; exact h1
    · rw [decide_eq_false (by omega)] at h1; exact h1
theorem adm_no_before {i e : Nat} {d : List Nat} (he : e ∈ (List.range ops.size).filter fun j => kindAt P ops j == .eff) (hb : bit (Region.before ops) i e = true) (hd : e ∉ d) :
    adm (Region.before ops) ((List.range ops.size).filter fun j => kindAt P ops j == .eff) i d = true → False := by
  intro h
  unfold adm at h
  simp only [Bool.and_eq_true, List.all_eq_true] at h
  have := h.1 e he
  rw [hb] at this
  simp at this
  exact hd this
theorem adm_no_after {i e : Nat} {d effs : List Nat} (hb : bit (Region.before ops) e i = true) (hd : e ∈ d) : adm (Region.before ops) effs i d = true → False := by
  intro h
  unfold adm at h
  simp only [Bool.and_eq_true, List.all_eq_true] at h
  have := h.2 e hd
  rw [hb] at this; cases this
theorem DrInv.pure {a : Nat} {s : Trc} {hs : List Hp} {rs : List Rd} (I : DrInv P ops a s hs rs) (fr : Fr) (h : Hp) : DrInv P ops (a + 1) { s with fr := fr, h := h } hs rs :=
  ⟨fun e he => by have := I.dn e he; omega, I.ef, fun d h hd e he => by have := I.lt d h hd e he; omega, I.bs, fun i f v hm => ⟨by have := (I.ri i f v hm).1; omega, (I.ri i f v hm).2⟩, I.rw_, I.rs⟩
theorem DrInv.read {a : Nat} {s : Trc} {hs : List Hp} {rs : List Rd} (I : DrInv P ops a s hs rs) {o : Oper} (ho : ops[a]? = some o) (hk : kindAt P ops a = .read) (ha : a < ops.size) {v : Value} (fr : Fr)
    (hv : sameAt P o s.fr v hs) : DrInv P ops (a + 1) { s with fr := fr, rs := (a, s.fr, v) :: s.rs } hs ((s.fr, o, v) :: rs) := by
  have hall : ∀ (l : List Hp), sameAt P o s.fr v l → ∀ h ∈ l, evReadOrPure P s.fr o h = some v := by
    intro l
    induction l with
    | nil => intro _ h hm; cases hm
    | cons x l ih =>
      intro hs h hm
      rcases List.mem_cons.1 hm with rfl | hm
      · exact hs.1
      · exact ih hs.2 h hm
  refine ⟨fun e he => by have := I.dn e he; omega, I.ef, fun d h hd e he => by have := I.lt d h hd e he; omega, I.bs, fun i f u hm => ?_, fun i f u hm => ?_, fun i f u hm d h hd had => ?_⟩
  · rcases List.mem_cons.1 hm with hm | hm
    · simp only [Prod.mk.injEq] at hm
      obtain ⟨rfl, rfl, rfl⟩ := hm
      exact ⟨by omega, ha, hk⟩
    · exact ⟨by have := (I.ri i f u hm).1; omega, (I.ri i f u hm).2⟩
  · rcases List.mem_cons.1 hm with hm | hm
    · simp only [Prod.mk.injEq] at hm
      obtain ⟨rfl, rfl, rfl⟩ := hm
      exact .inl ⟨o, ho, List.mem_cons_self ..⟩
    · rcases I.rw_ i f u hm with ⟨o', h1, h2⟩ | h
      · exact .inl ⟨o', h1, List.mem_cons_of_mem _ h2⟩
      · exact .inr h
  · rcases List.mem_cons.1 hm with hm | hm
    · simp only [Prod.mk.injEq] at hm
      obtain ⟨rfl, rfl, rfl⟩ := hm
      rcases I.bs d h hd with hh | ⟨e, he, hne, h4⟩
      · exact ⟨o, ho, hall hs hv h hh⟩
      · obtain ⟨h1, h2⟩ := I.ef e he
        have hlt := I.dn e he
        exact (adm_no_before (P := P) (List.mem_filter.2 ⟨List.mem_range.2 h2, by rw [h1]; rfl⟩) ((flag4 h4 ha hk).1 hlt) hne had).elim
    · exact I.rs i f u hm d h hd had
theorem DrInv.ordered {a : Nat} {s : Trc} {hs : List Hp} {rs : List Rd} (I : DrInv P ops a s hs rs) (hf : flagB P ops a 4 = true) (ha : a < ops.size) (fr : Fr) (h1 : Hp) :
    DrInv P ops (a + 1) { fr := fr, h := h1, done := a :: s.done, bs := (a :: s.done, h1) :: s.bs, rs := s.rs } [h1] [] := by
  have hk : kindAt P ops a = .eff := by unfold flagB at hf; simp only [Bool.and_eq_true] at hf; exact beq_iff_eq.1 hf.1
  refine ⟨fun e he => ?_, fun e he => ?_, fun d h hd e he => ?_, fun d h hd => ?_, fun i f v hm => ⟨by have := (I.ri i f v hm).1; omega, (I.ri i f v hm).2⟩, fun i f v hm => ?_, fun i f v hm d h hd had => ?_⟩
  · rcases List.mem_cons.1 he with rfl | he
    · omega
    · have := I.dn e he; omega
  · rcases List.mem_cons.1 he with rfl | he
    · exact ⟨hk, ha⟩
    · exact I.ef e he
  · rcases List.mem_cons.1 hd with hd | hd
    · simp only [Prod.mk.injEq] at hd
      obtain ⟨rfl, rfl⟩ := hd
      rcases List.mem_cons.1 he with rfl | he
      · omega
      · have := I.dn e he; omega
    · have := I.lt d h hd e he; omega
  · rcases List.mem_cons.1 hd with hd | hd
    · simp only [Prod.mk.injEq] at hd
      obtain ⟨rfl, rfl⟩ := hd
      exact .inl (List.mem_cons_self ..)
    · exact .inr ⟨a, List.mem_cons_self .., fun hm => by have := I.lt d h hd a hm; omega, hf⟩
  · exact .inr ⟨a, List.mem_cons_self .., (I.ri i f v hm).1, hf⟩
  · rcases List.mem_cons.1 hd with hd | hd
    · simp only [Prod.mk.injEq] at hd
      obtain ⟨rfl, rfl⟩ := hd
      obtain ⟨q1, q2, q3⟩ := I.ri i f v hm
      exact (adm_no_after ((flag4 hf q2 q3).2 (by omega)) (List.mem_cons_self ..) had).elim
    · exact I.rs i f v hm d h hd had
end
end Go.Ev
namespace Go.Ev
open Go
set_option linter.unusedSimpArgs false
set_option linter.unusedVariables false
def SlAt (h : Hp) (n : Nat) (v : Value) (cs : List Value) : Prop :=
  (v = .slice none 0 0 ∧ cs = []) ∨ ∃ b o k c all, v = .slice (some ⟨b, o, none⟩) k c ∧ k ≤ c / 2 ∧ b < h.next ∧ rowOf h b = some all ∧ cs.length = k * n ∧ (all.drop o).take (k * n) = cs
theorem SlAt.cells {h : Hp} {n : Nat} {v : Value} {cs : List Value} (s : SlAt h n v cs) : ∃ k, lenOf v = some k ∧ evCells n k v h = some cs ∧ cs.length = k * n := by
  rcases s with ⟨rfl, rfl⟩ | ⟨b, o, j, c, all, rfl, h2, h3, h4, h5, h6⟩
  · exact ⟨0, rfl, rfl, by simp⟩
  · refine ⟨j, rfl, ?_, h5⟩
    unfold evCells
    cases hj : (j * n == 0) with
    | true =>
      have : j * n = 0 := by simpa using hj
      simp only [cond_true]
      rw [this] at h5
      rw [List.length_eq_zero_iff.1 h5]
    | false =>
      simp only [cond_false, h4, Option.bind_some]
      have hl : (all.drop o |>.take (j * n)).length = j * n := by rw [h6, h5]
      have hj0 : j * n ≠ 0 := by simpa using hj
      have : o + j * n ≤ all.length := by simp at hl; omega
      rw [decide_eq_true this]
      simp only [cond_true, h6]
def Kept (h0 : Nat) (h h' : Hp) : Prop := h.next ≤ h'.next ∧ ∀ c, c < h0 → h'.get c = h.get c
theorem Kept.refl (h0 : Nat) (h : Hp) : Kept h0 h h := ⟨Nat.le_refl _, fun _ _ => rfl⟩
theorem Kept.trans {h0 : Nat} {a b c : Hp} (x : Kept h0 a b) (y : Kept h0 b c) : Kept h0 a c := ⟨Nat.le_trans x.1 y.1, fun k hk => (y.2 k hk).trans (x.2 k hk)⟩
theorem Keep.kept {h0 : Nat} {a b : Hp} (x : Keep a b) (hh : h0 ≤ a.next) : Kept h0 a b := ⟨x.1, fun c hc => x.2 c (by omega)⟩
end Go.Ev
namespace Go.Ev
open Go Go.RowKit
set_option linter.unusedSimpArgs false
set_option linter.unusedVariables false
end Go.Ev
namespace Go.Ev
open Go
theorem u8_of {n : Int} (h : (Lit.int .u8 n).wf = true) : ∃ c : UInt8, n = (c.toNat : Int) := by
  have h2 : (decide (IntKind.u8.min ≤ n) && decide (n ≤ IntKind.u8.max)) = true := h
  simp only [Bool.and_eq_true, decide_eq_true_eq] at h2
  have h3 : 0 ≤ n ∧ n ≤ 255 := h2
  exact ⟨UInt8.ofNat n.toNat, by rw [UInt8.toNat_ofNat']; omega⟩
end Go.Ev
namespace Go.Ev
open Go
set_option linter.unusedSimpArgs false
set_option linter.unusedVariables false
def RdT (P : Program) (W : World) (t : TypeId) (cs : List Value) : Prop :=
  ∃ (H : Type) (enc : TypeId × Value → H) (fuel : Nat) (x : DataW H × List MemPlace), DataW.trod enc P W 0 (fun _ => true) true fuel t cs = some x
section
variable {P : Program} {W : World} {t : TypeId} {cs : List Value}
theorem RdT.of {H : Type} {enc : TypeId × Value → H} {v : Value} {d : DataW H} {ps : List MemPlace} (h : DataW.Trod enc P W 0 (fun _ => true) true t v d ps) : RdT P W t v.cells.toList := by
  obtain ⟨f, h⟩ := h; exact ⟨H, enc, f, _, h⟩
theorem RdT.bool (ht : P.underlying t = some .bool) (h : RdT P W t cs) : ∃ b, cs = [.bool b] := by
  obtain ⟨_, _, _, _, h⟩ := h; obtain ⟨b, h, _⟩ := DataW.trod_bool ht h; exact ⟨b, h⟩
theorem RdT.int {k : IntKind} (ht : P.underlying t = some (.int k)) (h : RdT P W t cs) : ∃ n, cs = [.int k n] ∧ (Lit.int k n).wf = true := by
  obtain ⟨_, _, _, _, h⟩ := h; obtain ⟨b, h, _, h2⟩ := DataW.trod_int ht h; exact ⟨b, h, h2⟩
theorem RdT.string (ht : P.underlying t = some .string) (h : RdT P W t cs) : ∃ s : ByteArray, cs = [.string s] ∧ s.size ≤ Go.maxLen := by
  obtain ⟨_, _, _, _, h⟩ := h; obtain ⟨b, h, _, h2⟩ := DataW.trod_string ht h; exact ⟨b, h, h2⟩
theorem RdT.struct {fs : Array Field} (ht : P.underlying t = some (.struct fs)) (h : RdT P W t cs) : cs.length = P.cellsOf t ∧ ∀ (i : Nat) (f : Field), fs[i]? = some f → RdT P W f.type ((cs.drop f.offset).take (P.cellsOf f.type)) := by
  obtain ⟨H, enc, _, _, h⟩ := h
  obtain ⟨xs, n, _, _, h1, h2, h3⟩ := DataW.trod_struct ht h
  refine ⟨h1, fun i f hf => ?_⟩
  have hi : i < xs.length := by rw [h2]; exact (Array.getElem?_eq_some_iff.1 hf).1
  exact ⟨H, enc, n, xs[i], by rw [h3 i f hf, List.getElem?_eq_getElem hi]⟩
theorem RdT.len {fs : Array Field} (ht : P.underlying t = some (.struct fs)) {n : Nat} (hn : P.cellsOf t = n) (h : RdT P W t cs) : cs.length = n := by rw [← hn]; exact (RdT.struct ht h).1
theorem RdT.field {fs : Array Field} (ht : P.underlying t = some (.struct fs)) (h : RdT P W t cs) (i u o n : Nat) (hf : (fs[i]?).map (fun f => (f.type, f.offset)) = some (u, o)) (hn : P.cellsOf u = n) : RdT P W u ((cs.drop o).take n) := by
  obtain ⟨f, h1, h2⟩ := Option.map_eq_some_iff.1 hf
  have := (RdT.struct ht h).2 i f h1
  simp only [Prod.mk.injEq] at h2
  obtain ⟨rfl, rfl⟩ := h2
  rw [hn] at this; exact this
theorem RdT.array {n : Nat} {e : TypeId} (ht : P.underlying t = some (.array n e)) (h : RdT P W t cs) : cs.length = P.cellsOf t ∧ ∀ i, i < n → RdT P W e ((cs.drop (i * P.cellsOf e)).take (P.cellsOf e)) := by
  obtain ⟨H, enc, _, _, h⟩ := h
  obtain ⟨xs, m, _, _, h1, h2, h3⟩ := DataW.trod_array ht h
  refine ⟨h1, fun i hi => ?_⟩
  exact ⟨H, enc, m, xs[i]'(by omega), by rw [h3 i hi, List.getElem?_eq_getElem (by omega)]⟩
theorem RdT.slice {e : TypeId} (ht : P.underlying t = some (.slice e)) (h : RdT P W t cs) : cs = [.slice none 0 0] ∨
    ∃ a len cap, cs = [.slice (some a) len cap] ∧ len ≤ cap ∧ cap ≤ Go.maxLen ∧ ∀ i, i < cap → ∃ l, W.cells? 0 (a.add (i * P.cellsOf e)) (P.cellsOf e) = some l ∧ RdT P W e l := by
  obtain ⟨H, enc, _, _, h⟩ := h
  rcases DataW.trod_slice ht h with ⟨h1, _⟩ | ⟨a, len, cap, elems, rest, n, _, h1, _, _, h3, h4, h5, h6, h7, _⟩
  · exact .inl h1
  · refine .inr ⟨a, len, cap, h1, h3, h4, fun i hi => ?_⟩
    obtain ⟨h8, h9⟩ := h7 rfl
    have key : ∃ y, (W.cells? 0 (a.add (i * P.cellsOf e)) (P.cellsOf e)).bind (DataW.trod enc P W 0 (fun _ => true) true n e) = some y := by
      by_cases hl : i < len
      · exact ⟨elems[i]'(by omega), by rw [h6 i hl, List.getElem?_eq_getElem (by omega)]⟩
      · refine ⟨rest[i - len]'(by omega), ?_⟩
        have := h9 (i - len) (by omega)
        rw [show len + (i - len) = i by omega] at this
        rw [this, List.getElem?_eq_getElem (by omega)]
    obtain ⟨y, hy⟩ := key
    obtain ⟨l, hl, hy⟩ := Option.bind_eq_some_iff.1 hy
    exact ⟨l, hl, H, enc, n, y, hy⟩
end
theorem closed_args {C : Ctx} {w0 : World} (hC : CtxOK C (From m0 h0 w0) (regOk C.P)) (hmix : C.P.follows .mixedOrders = true) {n f : Nat} {args : List Value} (ha : args.all flat = true) {b : Bool}
    (e : (evCall C n f args h0).map (·.1) = some (.bool b)) : Calls C.P f args.toArray w0 fun e w' => e = .returned (.bool b) ∧ Go.RowKit.Below w0.heap.size w0 w' := by
  obtain ⟨⟨v, h'⟩, e1, e2⟩ := Option.map_eq_some_iff.1 e
  have e2 : v = .bool b := e2
  subst e2
  obtain ⟨_, k⟩ := evCall_sound (From.closed m0 h0 w0) hC hmix n f args h0 _ _ e1
  have hv : ∀ l : List Value, l.all flat = true → VL m0 l l := fun l => by
    induction l with
    | nil => exact fun _ => .nil
    | cons x l ih => intro h; simp only [List.all_cons, Bool.and_eq_true] at h; exact .cons (flat_refl h.1) (ih h.2)
  refine (k m0 w0 args (rep0 _ _) (Step.refl _ _ _) (hv _ ha)).mono fun e w' he => ?_
  obtain ⟨v', m', rfl, _, hs, hv⟩ := he
  cases hv
  exact ⟨rfl, hs.below0⟩
end Go.Ev
namespace Go.Con
open Go
set_option linter.unusedSimpArgs false
set_option linter.unusedVariables false
def ofL (l : List UInt8) : ByteArray := ⟨l.toArray⟩
def signB (b : UInt8) : Bool := decide (33 ≤ b.toNat) && decide (b.toNat ≤ 126) && !decide (b.toNat = 62)
def plainB (s : ByteArray) (most : Nat) : Bool := decide (1 ≤ s.size) && decide (s.size ≤ most) && s.data.toList.all signB
abbrev mayN (s : ByteArray) : Bool := plainB s 32
abbrev mayU (s : ByteArray) : Bool := plainB s 16
def cut : List UInt8 → List (List UInt8)
  | [] => [[]]
  | c :: l => if c = 62 then [] :: cut l else (c :: (cut l).headD []) :: (cut l).tail
def split (s : ByteArray) : Option (List ByteArray) :=
  match s.data.toList with
  | [] => none
  | c :: l => if c = 62 then (if l = [] then some [] else if 168 < s.size then none else if 16 < (cut l).length then none
      else if ((cut l).map ofL).all mayN then some ((cut l).map ofL) else none) else none
def join (ps : List ByteArray) : ByteArray := ofL (62 :: [62].intercalate (ps.map (·.data.toList)))
theorem may_no {s : ByteArray} {n : Nat} (h : plainB s n = true) : (62 : UInt8) ∉ s.data.toList := by
  intro hm
  unfold plainB at h
  simp only [Bool.and_eq_true, List.all_eq_true] at h
  have := h.2 _ hm
  simp [signB] at this
end Go.Con
namespace Go.Con
open Go
set_option linter.unusedSimpArgs false
set_option linter.unusedVariables false
structure Fl where
  r : Bool
  w : Bool
  e : Bool
  deriving DecidableEq
structure Bk where
  r1 : Int
  r2 : Int
  r3 : Int
  g : Int
  deriving DecidableEq
structure Tm where
  user : ByteArray
  f : Fl
  deriving DecidableEq
structure Bn where
  kind : Int
  uid : Int
  dir : Int
  link : ByteArray
  object : Bool
  acl : List Tm
  b : Bk
  deriving DecidableEq
def noFl : Fl := ⟨false, false, false⟩
def noBk : Bk := ⟨0, 0, 0, 0⟩
def noBn : Bn := ⟨0, 0, 0, ByteArray.empty, false, [], noBk⟩
def bkMay (b : Bk) : Bool := decide (0 ≤ b.r1) && decide (b.r1 ≤ b.r2) && decide (b.r2 ≤ b.r3) && decide (b.r3 ≤ 7) && decide (0 ≤ b.g) && decide (b.g ≤ 1024)
def star : ByteArray := ⟨#[42]⟩
def userT (s : ByteArray) : Bool := decide (s = star) || mayU s
def ltS (a b : ByteArray) : Bool := decide (a.data.toList < b.data.toList)
theorem cmp_lt : ∀ (x y : List UInt8), Lib.compareBytes x y < 0 ↔ x < y
  | [], [] => by simp [Lib.compareBytes]
  | [], b :: y => by simp [Lib.compareBytes]
  | a :: x, [] => by simp [Lib.compareBytes]
  | a :: x, b :: y => by
    have ih := cmp_lt x y
    unfold Lib.compareBytes
    rw [List.cons_lt_cons_iff]
    by_cases h : a < b
    · simp [h]
    · by_cases h2 : b < a
      · have : a ≠ b := by rintro rfl; exact h h2
        simp [h, h2, this]
      · have : a = b := UInt8.le_antisymm (UInt8.not_lt.1 h2) (UInt8.not_lt.1 h)
        subst this
        simp [ih]
theorem bless_lt : ∀ (x y : List UInt8), Op.bytesLess x y = decide (x < y)
  | [], [] => by simp [Op.bytesLess]
  | [], b :: y => by simp [Op.bytesLess]
  | a :: x, [] => by simp [Op.bytesLess]
  | a :: x, b :: y => by
    have ih := bless_lt x y
    unfold Op.bytesLess
    rw [ih, Bool.eq_iff_iff]
    simp [List.cons_lt_cons_iff]
def tmAt (l : List Tm) (i : Nat) : Tm := (l[i]?).getD ⟨ByteArray.empty, noFl⟩
def okAt (l : List Tm) (i : Nat) : Bool := userT (tmAt l i).user && (decide (i = 0) || ltS (tmAt l (i - 1)).user (tmAt l i).user)
def listMay (l : List Tm) : Bool := (List.range l.length).all (okAt l) && decide (l.length ≤ 16)
structure En where
  dir : Int
  id : Nat
  name : ByteArray
  deriving DecidableEq
def En.key (e : En) : Int × ByteArray := (e.dir, e.name)
def mLook {κ υ : Type} [DecidableEq κ] : List (κ × υ) → κ → Option υ
  | [], _ => none
  | (k, v) :: l, x => if k = x then some v else mLook l x
def mPut {κ υ : Type} [DecidableEq κ] : List (κ × υ) → κ → υ → List (κ × υ)
  | [], x, y => [(x, y)]
  | (k, v) :: l, x, y => if k = x then (x, y) :: l else (k, v) :: mPut l x y
def mDel {κ υ : Type} [DecidableEq κ] : List (κ × υ) → κ → List (κ × υ)
  | [], _ => []
  | (k, v) :: l, x => if k = x then l else (k, v) :: mDel l x
structure Hi where
  B : List Bn
  L : List En
  D : List Bool
namespace Hi
variable (T : Hi)
def is (d : Int) : Bool := decide (0 ≤ d) && (T.D[d.toNat]? == some true)
def br (i : Nat) : Bn := (T.B[i]?).getD noBn
def getF (k : Int × ByteArray) : Option Nat := (T.L.find? fun e => decide (e.key = k)).map (·.id)
abbrev get (d : Int) (n : ByteArray) : Option Nat := T.getF (d, n)
def isSeg (u : Int) (i : Nat) : Bool := decide ((T.br i).kind = 1) && decide ((T.br i).uid = u)
def seg (u : Int) : Option Nat := (T.L.find? fun e => T.isSeg u e.id).map (·.id)
def count (d : Int) : Nat := T.L.countP fun e => decide (e.dir = d)
def dirF (d : Int) : Option Int := if T.is d = true then some (T.count d : Int) else none
def many (i : Nat) : Nat := T.L.countP fun e => decide (e.id = i)
def cleanE (b : Bn) : Int :=
  if b.kind = 1 then (if b.uid < 1 ∨ listMay b.acl = false ∨ bkMay b.b = false then 1 else if (T.seg b.uid).isSome then 5 else 0)
  else if b.kind = 2 then 0
  else if b.kind = 3 then (if (split b.link).isSome then 0 else 3)
  else 15
def clean (b : Bn) : Bn :=
  if b.kind = 1 then ⟨1, b.uid, 0, ByteArray.empty, b.object, b.acl, b.b⟩
  else if b.kind = 2 then ⟨2, 0, T.D.length, ByteArray.empty, false, [], noBk⟩
  else ⟨3, 0, 0, b.link, false, [], noBk⟩
def why (d : Int) (n : ByteArray) (b : Bn) : Int :=
  if T.is d = false then 4 else if mayN n = false then 3 else if (T.get d n).isSome then 5 else T.cleanE b
def added (d : Int) (n : ByteArray) (b : Bn) : Hi := ⟨T.B ++ [T.clean b], T.L ++ [⟨d, T.B.length, n⟩], if b.kind = 2 then T.D ++ [true] else T.D⟩
def add (d : Int) (n : ByteArray) (b : Bn) : Hi × Int × Int :=
  if T.why d n b = 0 then (T.added d n b, (T.clean b).dir, 0) else (T, 0, T.why d n b)
def look (d : Int) (n : ByteArray) : Option Bn := (T.get d n).map T.br
def named (d : Int) (m : ByteArray) (i : Nat) : Hi := { T with L := T.L ++ [⟨d, i, m⟩] }
def name (d : Int) (n m : ByteArray) : Hi × Int :=
  match T.get d n with
  | none => (T, 4)
  | some i => if mayN m = false then (T, 3) else if (T.get d m).isSome then (T, 5) else (T.named d m i, 0)
def taken (d : Int) (n : ByteArray) : Hi := { T with L := T.L.filter fun e => !decide (e.key = (d, n)) }
def gone (i : Nat) : Hi := { T with L := T.L.filter (fun e => !decide (e.id = i)), D := if (T.br i).kind = 2 then T.D.set (T.br i).dir.toNat false else T.D }
def delete (d : Int) (n : ByteArray) : Hi × Bn × Int :=
  match T.get d n with
  | none => (T, noBn, 4)
  | some i => if (T.br i).kind = 2 ∧ 0 < T.count (T.br i).dir then (T, noBn, 16) else (T.gone i, T.br i, 0)
structure Ok : Prop where
  ids : ∀ e ∈ T.L, e.id < T.B.length
  keys : (T.L.map En.key).Nodup
  dirs : ∀ e ∈ T.L, T.is e.dir = true
  homes : ∀ a ∈ T.L, ∀ b ∈ T.L, a.id = b.id → a.dir = b.dir
  uids : ∀ a ∈ T.L, ∀ b ∈ T.L, (T.br a.id).kind = 1 → (T.br b.id).kind = 1 → (T.br a.id).uid = (T.br b.id).uid → a.id = b.id
  subs : ∀ e ∈ T.L, (T.br e.id).kind = 2 → 0 < (T.br e.id).dir ∧ (T.br e.id).dir < T.D.length
  few : T.D.length ≤ T.B.length + 1
  root : T.is 0 = true
end Hi
end Go.Con
namespace Go.Ev
open Go Go.Con
set_option linter.unusedSimpArgs false
set_option linter.unusedVariables false
structure KeyOK {κ : Type} [DecidableEq κ] (P : Program) (kt : TypeId) (K : κ → Value) : Prop where
  flat : ∀ x, flat (K x) = true
  chk : ∀ b x, prun P (Instr.checkKey b 10000 kt (K x)) = some ()
  find : ∀ (x : κ) (es : List MapEntry) (l : List (κ × Value)), es.map (fun e => (e.key, e.val)) = l.map (fun p => (K p.1, p.2)) → prun P (Instr.findKey kt (K x) es) = some ((l.findIdx? (fun p => decide (p.1 = x))).bind fun i => (l[i]?).map fun p => (i, p.2))
  same : ∀ x, Instr.sameBits 10000 (K x) (K x) = true
def BornOK (es : List MapEntry) (c : Nat) : Prop := (es.map (·.born)).Nodup ∧ ∀ e ∈ es, e.born < c
theorem BornOK.nil (c : Nat) : BornOK [] c := ⟨by simp, by simp⟩
theorem BornOK.add {es : List MapEntry} {c : Nat} (b : BornOK es c) (k v : Value) : BornOK (es ++ [⟨k, v, c⟩]) (c + 1) := by
  refine ⟨?_, fun e he => ?_⟩
  · rw [List.map_append, List.nodup_append]
    refine ⟨b.1, by simp, fun x hx y hy => ?_⟩
    simp only [List.map_cons, List.map_nil, List.mem_singleton] at hy
    simp only [List.mem_map] at hx
    obtain ⟨e, he, rfl⟩ := hx
    have := b.2 e he
    omega
  · rcases List.mem_append.1 he with h | h
    · have := b.2 e h; omega
    · simp at h; subst h; simp
theorem BornOK.set {es : List MapEntry} {c : Nat} (b : BornOK es c) {i : Nat} {e : MapEntry} (hi : es[i]? = some e) (k v : Value) : BornOK (es.set i { e with key := k, val := v }) c := by
  refine ⟨?_, fun x hx => ?_⟩
  · rw [List.map_set]
    have : (es.map (·.born)).set i e.born = es.map (·.born) := by
      apply List.ext_getElem?
      intro j
      by_cases hj : i = j
      · subst hj
        have hlt : i < es.length := (List.getElem?_eq_some_iff.1 hi).1
        rw [List.getElem?_set_self (by simpa using hlt), List.getElem?_map, hi]; rfl
      · rw [List.getElem?_set_ne hj]
    rw [this]; exact b.1
  · rcases List.mem_or_eq_of_mem_set hx with h | h
    · exact b.2 x h
    · subst h; exact b.2 e (List.mem_of_getElem? hi)
def MapAt {κ υ : Type} (K : κ → Value) (V : υ → Value) (h : Hp) (b : Nat) (l : List (κ × υ)) : Prop := ∃ es c, h.get b = some (.map es c) ∧ es.map (fun e => (e.key, e.val)) = (l.map fun p => (K p.1, V p.2)) ∧ BornOK es c ∧ (l.map (·.1)).Nodup
theorem MapAt.eq {κ υ : Type} {K : κ → Value} {V : υ → Value} {h h' : Hp} {b : Nat} {l : List (κ × υ)} (m : MapAt K V h b l) (e : h'.get b = h.get b) : MapAt K V h' b l := by
  obtain ⟨es, c, h1, h2⟩ := m; exact ⟨es, c, by rw [e]; exact h1, h2⟩
section
variable {κ υ : Type} [DecidableEq κ]
theorem look_find (l : List (κ × υ)) (x : κ) : mLook l x = ((l.findIdx? (fun p => decide (p.1 = x))).bind fun i => (l[i]?).map fun p => p.2) := by
  induction l with
  | nil => rfl
  | cons a l ih =>
    obtain ⟨k, v⟩ := a
    rw [mLook, List.findIdx?_cons]
    by_cases hk : k = x
    · simp [hk]
    · simp only [hk, if_false, decide_false, Bool.false_eq_true, ih]
      cases h : l.findIdx? (fun p => decide (p.1 = x)) with
      | none => simp
      | some i => simp
theorem findIdx_map (V : υ → Value) (l : List (κ × υ)) (x : κ) : (l.map fun p => (p.1, V p.2)).findIdx? (fun p => decide (p.1 = x)) = l.findIdx? (fun p => decide (p.1 = x)) := by
  rw [List.findIdx?_map]; rfl
theorem put_find (l : List (κ × υ)) (x : κ) (y : υ) : mPut l x y = match l.findIdx? (fun p => decide (p.1 = x)) with
    | some i => l.set i (x, y)
    | none => l ++ [(x, y)] := by
  induction l with
  | nil => rfl
  | cons a l ih =>
    obtain ⟨k, v⟩ := a
    rw [mPut, List.findIdx?_cons]
    by_cases hk : k = x
    · simp [hk]
    · simp only [hk, if_false, decide_false, Bool.false_eq_true, ih]
      cases h : l.findIdx? (fun p => decide (p.1 = x)) with
      | none => simp
      | some i => simp
end
section
variable {κ υ : Type} [DecidableEq κ] {P : Program} {t kt et : TypeId} {K : κ → Value} {V : υ → Value} {h : Hp} {b : Nat} {l : List (κ × υ)}
theorem find_at (ok : KeyOK P kt K) {es : List MapEntry} (he : es.map (fun e => (e.key, e.val)) = l.map fun p => (K p.1, V p.2)) (x : κ) :
    prun P (Instr.findKey kt (K x) es) = some ((l.findIdx? (fun p => decide (p.1 = x))).bind fun i => (l[i]?).map fun p => (i, V p.2)) := by
  rw [ok.find x es (l.map fun p => (p.1, V p.2)) (by rw [he, List.map_map]; rfl), findIdx_map]
  congr 1
  congr 1
  funext i
  rw [List.getElem?_map]
  cases l[i]? <;> rfl
theorem lookup_at (ht : tMap P t = some (kt, et)) (ok : KeyOK P kt K) (m : MapAt K V h b l) {z : Value} (hz : tZero P et = some z) (hf : flat z = true) (x : κ) (f : Bool) :
    evLookup P t (.map (some b)) (K x) f h = some (match mLook l x with
      | some v => bif f then .tuple #[V v, .bool true] else V v
      | none => bif f then .tuple #[z, .bool false] else z) := by
  obtain ⟨es, c, hg, he, _⟩ := m
  unfold evLookup
  simp only [ht, Option.bind_some, ok.flat, Bool.not_true, cond_false, mapOf, hg]
  have : prun P (do Instr.checkKey es.isEmpty 10000 kt (K x); Instr.findKey kt (K x) es) = prun P (Instr.findKey kt (K x) es) := by
    rw [prun_bind, ok.chk, Option.bind_some]
  rw [this, find_at ok he, look_find]
  cases hi : l.findIdx? (fun p => decide (p.1 = x)) with
  | none => simp [hz, hf]
  | some i =>
    have hlt : i < l.length := List.findIdx?_eq_some_iff_getElem.1 hi |>.1
    simp [List.getElem?_eq_getElem hlt]
omit [DecidableEq κ] in
theorem keys_set {l : List (κ × υ)} {i : Nat} {x : κ} {y : υ} (h : (l.map (·.1)).Nodup) (hi : l[i]?.map (·.1) = some x) : ((l.set i (x, y)).map (·.1)).Nodup := by
  rw [List.map_set]
  have : (l.map (·.1)).set i x = l.map (·.1) := by
    apply List.ext_getElem?
    intro j
    by_cases hj : i = j
    · subst hj
      rcases hh : l[i]? with _ | p
      · rw [hh] at hi; cases hi
      · have hlt : i < l.length := (List.getElem?_eq_some_iff.1 hh).1
        rw [List.getElem?_set_self (by simpa using hlt), List.getElem?_map, hi]
    · rw [List.getElem?_set_ne hj]
  rw [this]; exact h
theorem update_at (ht : tMap P t = some (kt, et)) (ok : KeyOK P kt K) (m : MapAt K V h b l) (x : κ) (y : υ) :
    ∃ h', evMapUpdate P t (.map (some b)) (K x) (V y) h = some h' ∧ MapAt K V h' b (mPut l x y) ∧ h'.next = h.next ∧ ∀ c, c ≠ b → h'.get c = h.get c := by
  obtain ⟨es, c, hg, he, hb, hn⟩ := m
  unfold evMapUpdate
  simp only [ht, hg, ok.flat, Bool.not_true, cond_false]
  have : prun P (do Instr.checkKey false 10000 kt (K x); Instr.findKey kt (K x) es) = prun P (Instr.findKey kt (K x) es) := by
    rw [prun_bind, ok.chk, Option.bind_some]
  rw [this, find_at ok he, put_find]
  cases hi : l.findIdx? (fun p => decide (p.1 = x)) with
  | none =>
    refine ⟨h.set b (.map (es ++ [⟨K x, V y, c⟩]) (c + 1)), by simp, ⟨_, _, Hp.get_set_self _ _ _, by simp [he], hb.add _ _, ?_⟩, rfl, fun k hk => Hp.get_set_ne hk⟩
    rw [List.map_append, List.nodup_append]
    refine ⟨hn, by simp, fun a ha b' hb' => ?_⟩
    simp only [List.map_cons, List.map_nil, List.mem_singleton] at hb'
    subst hb'
    simp only [List.mem_map] at ha
    obtain ⟨p, hp, rfl⟩ := ha
    have := (List.findIdx?_eq_none_iff.1 hi) p hp
    simpa using this
  | some i =>
    obtain ⟨hlt, h1, _⟩ := List.findIdx?_eq_some_iff_getElem.1 hi
    have hl : es.length = l.length := by have := congrArg List.length he; simpa using this
    have hei : es[i]? = some es[i] := List.getElem?_eq_getElem (by omega)
    have hkey : (es[i]'(by omega)).key = K x := by
      have h2 : (es.map fun e => (e.key, e.val))[i]? = (l.map fun p => (K p.1, V p.2))[i]? := by rw [he]
      rw [List.getElem?_map, List.getElem?_map, hei, List.getElem?_eq_getElem hlt] at h2
      simp only [Option.map_some, Option.some.injEq, Prod.mk.injEq] at h2
      rw [h2.1]
      have := of_decide_eq_true h1
      rw [this]
    refine ⟨h.set b (.map (es.set i { es[i]'(by omega) with key := K x, val := V y }) c), ?_, ⟨_, _, Hp.get_set_self _ _ _, ?_, hb.set hei _ _, ?_⟩, rfl, fun k hk => Hp.get_set_ne hk⟩
    · simp only [Option.bind_some, List.getElem?_eq_getElem hlt, Option.map_some, hei, hkey, ok.same, cond_true]
    · rw [List.map_set, he, List.map_set]
    · refine keys_set hn ?_
      rw [List.getElem?_eq_getElem hlt]
      exact congrArg some (of_decide_eq_true h1)
end
section
variable {κ υ : Type} [DecidableEq κ]
def upd (f : κ → Option υ) (x : κ) (y : Option υ) : κ → Option υ := fun z => if z = x then y else f z
theorem upd_self (f : κ → Option υ) (x : κ) (y : Option υ) : upd f x y x = y := if_pos rfl
theorem look_put (x : κ) (y : υ) : ∀ (l : List (κ × υ)) (z : κ), mLook (mPut l x y) z = if z = x then some y else mLook l z
  | [], z => by
    simp only [mPut, mLook]
    by_cases h : x = z
    · simp [h]
    · simp [h, Ne.symm h]
  | (k, v) :: l, z => by
    unfold mPut
    by_cases hk : k = x
    · subst hk
      simp only [if_true, mLook]
      by_cases h : k = z
      · simp [h]
      · simp [h, Ne.symm h]
    · simp only [hk, if_false, mLook]
      by_cases h : k = z
      · subst h; simp [hk]
      · simp only [h, if_false]; exact look_put x y l z
theorem look_none {l : List (κ × υ)} {z : κ} (h : z ∉ l.map (·.1)) : mLook l z = none := by
  induction l with
  | nil => rfl
  | cons p l ih =>
    obtain ⟨k, v⟩ := p
    simp only [List.map_cons, List.mem_cons, not_or] at h
    simp only [mLook, Ne.symm h.1, if_false]
    exact ih h.2
theorem look_del (x : κ) : ∀ (l : List (κ × υ)), (l.map (·.1)).Nodup → ∀ z, mLook (mDel l x) z = if z = x then none else mLook l z
  | [], _, z => by simp [mDel, mLook]
  | (k, v) :: l, hn, z => by
    simp only [List.map_cons, List.nodup_cons] at hn
    unfold mDel
    by_cases hk : k = x
    · subst hk
      simp only [if_true, mLook]
      by_cases h : z = k
      · subst h; simp [look_none hn.1]
      · simp [h, Ne.symm h]
    · simp only [hk, if_false, mLook]
      by_cases h : k = z
      · subst h; simp [hk]
      · simp only [h, if_false]; exact look_del x l hn.2 z
def MapIs (K : κ → Value) (V : υ → Value) (h : Hp) (b : Nat) (f : κ → Option υ) : Prop := ∃ l, MapAt K V h b l ∧ ∀ x, mLook l x = f x
variable {P : Program} {t kt et : TypeId} {K : κ → Value} {V : υ → Value} {h h' : Hp} {b : Nat} {f : κ → Option υ}
theorem MapIs.eq (m : MapIs K V h b f) (e : h'.get b = h.get b) : MapIs K V h' b f := by
  obtain ⟨l, h1, h2⟩ := m; exact ⟨l, h1.eq e, h2⟩
theorem MapIs.get (m : MapIs K V h b f) : ∃ es c, h.get b = some (.map es c) := by
  obtain ⟨l, ⟨es, c, h1, _⟩, _⟩ := m; exact ⟨es, c, h1⟩
theorem MapIs.new (h : Hp) (K : κ → Value) (V : υ → Value) : MapIs K V (h.push (.map [] 0)) h.next (fun _ => none) :=
  ⟨[], ⟨[], 0, Hp.get_push_self _ _, rfl, .nil _, by simp⟩, fun _ => rfl⟩
theorem MapIs.look (m : MapIs K V h b f) (ht : tMap P t = some (kt, et)) (ok : KeyOK P kt K) {z : Value} (hz : tZero P et = some z) (hf : flat z = true) (x : κ) (fl : Bool) :
    evLookup P t (.map (some b)) (K x) fl h = some (match f x with
      | some v => bif fl then .tuple #[V v, .bool true] else V v
      | none => bif fl then .tuple #[z, .bool false] else z) := by
  obtain ⟨l, h1, h2⟩ := m
  rw [lookup_at ht ok h1 hz hf, h2]
theorem MapIs.put (m : MapIs K V h b f) (ht : tMap P t = some (kt, et)) (ok : KeyOK P kt K) (x : κ) (y : υ) :
    ∃ h', evMapUpdate P t (.map (some b)) (K x) (V y) h = some h' ∧ MapIs K V h' b (upd f x (some y)) ∧ h'.next = h.next ∧ ∀ c, c ≠ b → h'.get c = h.get c := by
  obtain ⟨l, h1, h2⟩ := m
  obtain ⟨h', e1, e2, e3, e4⟩ := update_at ht ok h1 x y
  refine ⟨h', e1, ⟨_, e2, fun z => ?_⟩, e3, e4⟩
  rw [look_put, h2]; rfl
end
end Go.Ev
namespace Go.Ev
open Go
set_option linter.unusedSimpArgs false
set_option linter.unusedVariables false
end Go.Ev
namespace Go.Ev
open Go
set_option linter.unusedSimpArgs false
set_option linter.unusedVariables false
def Chg (F : Nat → Prop) (h h' : Hp) : Prop := h.next ≤ h'.next ∧ ∀ b, b < h.next → ¬ F b → h'.get b = h.get b
theorem Chg.refl (F : Nat → Prop) (h : Hp) : Chg F h h := ⟨Nat.le_refl _, fun _ _ _ => rfl⟩
theorem Chg.trans {F G : Nat → Prop} {a b c : Hp} (x : Chg F a b) (y : Chg G b c) (s : ∀ k, G k → F k ∨ a.next ≤ k) : Chg F a c :=
  ⟨Nat.le_trans x.1 y.1, fun k hk hf => (y.2 k (Nat.lt_of_lt_of_le hk x.1) fun hg => (s k hg).elim hf (by omega)).trans (x.2 k hk hf)⟩
theorem Chg.mono {F G : Nat → Prop} {a b : Hp} (x : Chg F a b) (s : ∀ k, F k → G k) : Chg G a b := ⟨x.1, fun k hk hf => x.2 k hk fun h => hf (s k h)⟩
theorem Chg.set {F : Nat → Prop} {a b : Hp} (x : Chg F a b) {c : Nat} {o : Ob} (hc : F c ∨ a.next ≤ c) : Chg F a (b.set c o) :=
  ⟨x.1, fun k hk hf => by rw [Hp.get_set_ne (by rintro rfl; exact hc.elim hf (by omega))]; exact x.2 k hk hf⟩
theorem Chg.push {F : Nat → Prop} {a b : Hp} (x : Chg F a b) (o : Ob) : Chg F a (b.push o) :=
  ⟨Nat.le_succ_of_le x.1, fun k hk hf => by rw [Hp.get_push_lt (Nat.lt_of_lt_of_le hk x.1)]; exact x.2 k hk hf⟩
theorem Chg.one {F : Nat → Prop} {a b c : Hp} {k : Nat} (x : Chg F a b) (hn : c.next = b.next) (hs : ∀ j, j ≠ k → c.get j = b.get j) (hk : F k ∨ a.next ≤ k) : Chg F a c :=
  ⟨by rw [hn]; exact x.1, fun j hj hf => by rw [hs j (by rintro rfl; exact hk.elim hf (by omega))]; exact x.2 j hj hf⟩
def Same (e : TypeId) (h h' : Hp) : Prop := h.next ≤ h'.next ∧ ∀ b cs st, b < h.next → h.get b = some (.row cs e st) → h'.get b = some (.row cs e st)
theorem Same.refl (e : TypeId) (h : Hp) : Same e h h := ⟨Nat.le_refl _, fun _ _ _ _ g => g⟩
theorem Same.trans {e : TypeId} {a b c : Hp} (x : Same e a b) (y : Same e b c) : Same e a c := ⟨Nat.le_trans x.1 y.1, fun k cs st hk g => y.2 k cs st (Nat.lt_of_lt_of_le hk x.1) (x.2 k cs st hk g)⟩
def noRow (e : TypeId) : Option Ob → Prop
  | some (.row _ e' _) => e' ≠ e
  | _ => True
theorem Same.set {e : TypeId} {h : Hp} {b : Nat} {o : Ob} (n : noRow e (h.get b)) : Same e h (h.set b o) := ⟨Nat.le_refl _, fun c cs st _ g => by
  rw [Hp.get_set_ne (by rintro rfl; rw [g] at n; exact n rfl)]; exact g⟩
theorem Same.one {e : TypeId} {h h' : Hp} {b : Nat} (n : noRow e (h.get b)) (hn : h.next ≤ h'.next) (hs : ∀ j, j < h.next → j ≠ b → h'.get j = h.get j) : Same e h h' := ⟨hn, fun c cs st hc g => by
  rw [hs c hc (by rintro rfl; rw [g] at n; exact n rfl)]; exact g⟩
def SlTy (h : Hp) (F : Nat → Prop) (e n : Nat) (v : Value) (cs : List Value) : Prop :=
  (v = .slice none 0 0 ∧ cs = []) ∨ ∃ b o k c all st, v = .slice (some ⟨b, o, none⟩) k c ∧ k ≤ c / 2 ∧ F b ∧ b < h.next ∧ h.get b = some (.row all e st) ∧ notDead st ∧ cs.length = k * n ∧ (all.drop o).take (k * n) = cs
theorem SlTy.isCell {h : Hp} {F : Nat → Prop} {e n : Nat} {v : Value} {cs : List Value} (s : SlTy h F e n v cs) : isCell v = true := by
  rcases s with ⟨rfl, _⟩ | ⟨b, o, k, c, all, st, rfl, _⟩ <;> rfl
theorem SlTy.same {h h' : Hp} {F G : Nat → Prop} {e n : Nat} {v : Value} {cs : List Value} (s : SlTy h F e n v cs) (x : Same e h h') (hg : ∀ k, F k → G k) : SlTy h' G e n v cs := by
  rcases s with s | ⟨b, o, k, c, all, st, h1, h2, hF, h3, h4, h5⟩
  · exact .inl s
  · exact .inr ⟨b, o, k, c, all, st, h1, h2, hg _ hF, Nat.lt_of_lt_of_le h3 x.1, x.2 b all st h3 h4, h5⟩
end Go.Ev
namespace Go.Ev
open Go
set_option linter.unusedSimpArgs false
set_option linter.unusedVariables false
end Go.Ev
namespace Go.Ev
open Go
set_option linter.unusedSimpArgs false
set_option linter.unusedVariables false
def Gr (G : Nat → Prop) (h : Hp) (v : Value) (e n : Nat) (cs : List Value) : Prop :=
  (∀ k, G k → k < h.next) ∧ ((v = .slice none 0 0 ∧ cs = []) ∨ ∃ b k base olds x, v = .slice (some ⟨b, 0, none⟩) k (2 * k + x) ∧ x ≤ 1 ∧ cs.length = k * n ∧ 1 ≤ k ∧ h.get b = some (.row cs e (.rw base olds)) ∧
    base + n ≤ cs.length ∧ G b ∧ ∀ o ∈ olds, G o)
theorem Gr.nil (h : Hp) (e n : Nat) : Gr (fun _ => False) h (.slice none 0 0) e n [] := ⟨fun _ h => h.elim, .inl ⟨rfl, rfl⟩⟩
theorem Gr.lt {G : Nat → Prop} {h : Hp} {v : Value} {e n : Nat} {cs : List Value} (g : Gr G h v e n cs) {k : Nat} (hk : G k) : k < h.next := g.1 k hk
end Go.Ev
namespace Go.Ev
open Go
set_option linter.unusedSimpArgs false
set_option linter.unusedVariables false
variable {C : Ctx}
end Go.Ev
namespace Go.Ev
open Go Go.RowKit
set_option linter.unusedSimpArgs false
set_option linter.unusedVariables false
theorem Rep.commitX {P : Program} {m : Mp} {h : Hp} {w : World} (r : Rep P m h w) {c x n : Nat} {cs : List Value} {cs' : Array Value} {e : TypeId} (hc : w.heap[c]? = some (.cells cs' e (0, 0))) (hun : ∀ b L, m b = some L → L.blk ≠ c)
    (h1 : VL m cs (cs'.toList.take cs.length)) (h2 : tSize P e = some n) (h3 : cs'.size = cs.length + x * n) :
    Rep P (m.upd h.next ⟨c, x⟩) (h.push (.row cs e (.rw 0 []))) w := by
  have hn := (r.frs h.next (Nat.le_refl _)).2
  have hle : m.le (m.upd h.next ⟨c, x⟩) := Mp.le_upd hn
  have hlv : ∀ b, live (h.push (.row cs e (.rw 0 []))) b → b ≠ h.next → live h b := fun b hl hb => by
    unfold live at *; rw [Hp.get_push, if_neg hb] at hl; exact hl
  have hclt : c < w.heap.size := (Array.getElem?_eq_some_iff.1 hc).1
  refine ⟨fun b L e => ?_, fun b hb => ?_, fun b cs e st hb hd => ?_, fun b cs e base olds hb => ?_, fun b es ck hb => ?_, fun b b' L L' hl hne hm hm' he => ?_⟩
  · unfold Mp.upd at e
    split at e
    · cases e; exact hclt
    · exact r.rng b L e
  · rw [Hp.next_push] at hb
    refine ⟨?_, ?_⟩
    · rw [Hp.get_push, if_neg (by omega)]; exact (r.frs b (by omega)).1
    · unfold Mp.upd; rw [if_neg (by omega)]; exact (r.frs b (by omega)).2
  · rw [Hp.get_push] at hb
    split at hb
    · rename_i hbn
      subst hbn
      cases hb
      exact ⟨_, cs', (0, 0), Mp.upd_self _ _ _, hc, h1.mono hle⟩
    · obtain ⟨L, cs', fz, h1, h2, h3⟩ := r.row b cs e st hb hd
      exact ⟨L, cs', fz, hle _ _ h1, h2, h3.mono hle⟩
  · rw [Hp.get_push] at hb
    split at hb
    · rename_i hbn
      subst hbn
      cases hb
      exact ⟨_, cs', n, Mp.upd_self _ _ _, hc, .inl h2, h3⟩
    · obtain ⟨L, cs', n, h1, h2, h3⟩ := r.rw b cs e base olds hb
      exact ⟨L, cs', n, hle _ _ h1, h2, h3⟩
  · rw [Hp.get_push] at hb
    split at hb
    · cases hb
    · obtain ⟨L, es', h1, h2, h3⟩ := r.map b es ck hb
      exact ⟨L, es', hle _ _ h1, h2, h3.mono hle⟩
  · unfold Mp.upd at hm hm'
    split at hm
    · rename_i hbn
      cases hm
      rw [if_neg (by omega)] at hm'
      exact absurd he.symm (hun b' L' hm')
    · rename_i hbn
      split at hm'
      · cases hm'
        exact absurd he (hun b L hm)
      · rename_i hbn'
        rcases r.sep b b' L L' (hlv b hl hbn) hne hm hm' he with h1 | ⟨cs, e, base, olds, cs2, e2, h1, h2, h3, h4⟩
        · left; unfold inert at *; rw [Hp.get_push, if_neg hbn']; exact h1
        · right
          exact ⟨cs, e, base, olds, cs2, e2, by rw [Hp.get_push, if_neg hbn]; exact h1, h2, by rw [Hp.get_push, if_neg hbn']; exact h3, h4⟩
theorem Step.commitX {P : Program} {m0 m : Mp} {h0 h : Hp} {w0 w : World} (r : Rep P m h w) (s : Step m0 h0 w0 m h w) (ob : Ob) {c x : Nat} (hc : w0.heap.size ≤ c) : Step m0 h0 w0 (m.upd h.next ⟨c, x⟩) (h.push ob) w := by
  have hn := (r.frs h.next (Nat.le_refl _)).2
  refine ⟨Mp.le_trans s.le (Mp.le_upd hn), by rw [Hp.next_push]; have := s.next; omega, s.size, s.same, fun b L hl hm hlt => ?_, fun b L hm hlt => ?_, s.os, s.tape, s.output⟩
  · unfold Mp.upd at hm
    split at hm
    · cases hm; simp at hlt; omega
    · rename_i hb
      unfold live at hl; rw [Hp.get_push, if_neg hb] at hl
      exact s.liv b L hl hm hlt
  · unfold Mp.upd at hm
    split at hm
    · cases hm; simp at hlt; omega
    · exact s.old b L hm hlt
def insB (x : List UInt8) : List (List UInt8) → List (List UInt8)
  | [] => [x]
  | y :: l => bif Op.bytesLess y x then y :: insB x l else x :: y :: l
def sortB : List (List UInt8) → List (List UInt8)
  | [] => []
  | x :: l => insB x (sortB l)
theorem insB_perm (x : List UInt8) : ∀ l, (insB x l).Perm (x :: l)
  | [] => .refl _
  | y :: l => by
    unfold insB
    cases Op.bytesLess y x
    · exact .refl _
    · exact ((insB_perm x l).cons y).trans (.swap x y l)
theorem sortB_perm : ∀ l, (sortB l).Perm l
  | [] => .refl _
  | x :: l => (insB_perm x _).trans ((sortB_perm l).cons x)
theorem bytesLess_lt : ∀ (x y : List UInt8), Op.bytesLess x y = decide (x < y)
  | [], [] => by simp [Op.bytesLess]
  | [], b :: y => by simp [Op.bytesLess]
  | a :: x, [] => by simp [Op.bytesLess]
  | a :: x, b :: y => by
    have ih := bytesLess_lt x y
    unfold Op.bytesLess
    rw [ih, Bool.eq_iff_iff]
    simp [List.cons_lt_cons_iff]
theorem insB_sorted (x : List UInt8) : ∀ l, l.Pairwise (fun a b => ¬ b < a) → (insB x l).Pairwise fun a b => ¬ b < a
  | [], _ => by simp [insB]
  | y :: l, h => by
    unfold insB
    rw [bytesLess_lt]
    rw [List.pairwise_cons] at h
    by_cases hl : y < x
    · simp only [hl, decide_true, cond_true]
      rw [List.pairwise_cons]
      refine ⟨fun z hz => ?_, insB_sorted x l h.2⟩
      rcases List.mem_cons.1 ((insB_perm x l).mem_iff.1 hz) with rfl | hz
      · exact List.not_lt.2 (List.le_of_lt hl)
      · exact h.1 z hz
    · simp only [hl, decide_false, cond_false]
      rw [List.pairwise_cons]
      refine ⟨fun z hz => ?_, List.pairwise_cons.2 h⟩
      rcases List.mem_cons.1 hz with rfl | hz
      · exact hl
      · exact List.not_lt.2 (List.le_trans (List.not_lt.1 hl) (List.not_lt.1 (h.1 z hz)))
theorem sortB_sorted : ∀ l, (sortB l).Pairwise fun a b => ¬ b < a
  | [] => .nil
  | x :: l => insB_sorted x _ (sortB_sorted l)
theorem sortB_uniq {l k : List (List UInt8)} (hp : k.Perm l) (hs : k.Pairwise fun a b => ¬ b < a) : k = sortB l :=
  List.Perm.eq_of_pairwise (le := fun a b => ¬ b < a) (fun a b _ _ h1 h2 => List.le_antisymm (List.not_lt.1 h1) (List.not_lt.1 h2)) hs (sortB_sorted l) (hp.trans (sortB_perm l).symm)
def keyName (d : Int) (k : Value) : Option (Option (List UInt8)) := match k with
  | .agg cs => match cs.toList with
    | [.int .i64 x, .string s] => some (bif decide (x = d) then some s.data.toList else none)
    | _ => none
  | _ => none
def namesE (d : Int) : List MapEntry → Option (List (List UInt8))
  | [] => some []
  | e :: es => match keyName d e.key with
    | some (some s) => (namesE d es).map (s :: ·)
    | some none => namesE d es
    | none => none
def nodupB : List Nat → Bool
  | [] => true
  | x :: l => !(l.any fun y => Nat.beq x y) && nodupB l
theorem nodupB_spec : ∀ {l : List Nat}, nodupB l = true → l.Nodup
  | [], _ => .nil
  | x :: l, h => by
    simp only [nodupB, Bool.and_eq_true, Bool.not_eq_true', List.any_eq_false] at h
    rw [List.nodup_cons]
    exact ⟨fun hm => h.1 x hm (by simp), nodupB_spec h.2⟩
def bornB (es : List MapEntry) (ck : Nat) : Bool := nodupB (es.map (·.born)) && es.all fun e => decide (e.born < ck)
def encB (s : List UInt8) : Value := .string ⟨s.toArray⟩
def sumNames (T : TypeId) : Sum
  | [.pointer none, .int .i64 _], h => some (.slice none 0 0, h)
  | [.pointer (some ⟨b, 0, none⟩), .int .i64 d], h => (rowOf h b).bind fun
    | .map (some r) :: _ => match h.get r with
      | some (.map es ck) => bif bornB es ck && decide (es.length ≤ 1073741824) then (namesE d es).map fun ns => match sortB ns with
          | [] => (.slice none 0 0, h)
          | s :: ss => (.slice (some ⟨h.next, 0, none⟩) (ss.length + 1) (2 * (ss.length + 1) + 1), h.push (.row ((s :: ss).map encB) T (.rw 0 [])))
        else none
      | _ => none
    | _ => none
  | _, _ => none
theorem namesE_rel {m : Mp} {d : Int} : ∀ {es es' : List MapEntry}, EL m es es' → namesE d es' = namesE d es := by
  intro es es' h
  induction h with
  | nil => rfl
  | cons hk hf hv hb t ih => unfold namesE; rw [hk, ih]
theorem EL.born {m : Mp} {es es' : List MapEntry} (h : EL m es es') : es'.map (·.born) = es.map (·.born) := by
  induction h with
  | nil => rfl
  | cons hk hf hv hb t ih => simp [hb, ih]
theorem encB_rel {m : Mp} : ∀ l : List (List UInt8), VL m (l.map encB) (l.map encB)
  | [] => .nil
  | _ :: l => .cons (.string _) (encB_rel l)
def NamesOK (P : Program) (f : FuncId) (T : TypeId) : Prop := ∀ (tb bm : Nat) (es : Array MapEntry) (ck : Nat) (d : Int) (ns : List (List UInt8)) (w : World), w.cell? ⟨tb, 0, none⟩ = some (.map (some bm)) → w.heap[bm]? = some (.map es ck) →
  (es.toList.map (·.born)).Nodup → (∀ e ∈ es.toList, e.born < ck) → es.size ≤ 1073741824 → namesE d es.toList = some ns →
  Calls P f #[.pointer (some ⟨tb, 0, none⟩), .int .i64 d] w fun e w' => Below w.heap.size w w' ∧
    ((ns = [] ∧ e = .returned (.slice none 0 0)) ∨ ∃ g cap cs, e = .returned (.slice (some ⟨g, 0, none⟩) ns.length cap) ∧ ns ≠ [] ∧ ns.length ≤ cap ∧ w.heap.size ≤ g ∧ w'.heap[g]? = some (.cells cs T (0, 0)) ∧ cs.size = cap ∧ cs.toList.take ns.length = (sortB ns).map encB)
theorem sumNames_ok {P : Program} {I : Inv} {f : FuncId} {T : TypeId} (hT : tSize P T = some 1) (H0 : ∀ (d : Int) (w : World), Calls P f #[.pointer none, .int .i64 d] w fun e w' => e = .returned (.slice none 0 0) ∧ Below w.heap.size w w') (H : NamesOK P f T) : SumOK P I f (sumNames T) := by
  intro args h v h' e m w args' r hi hv
  unfold sumNames at e
  split at e
  · rename_i d
    simp only [Option.some.injEq, Prod.mk.injEq] at e
    obtain ⟨rfl, rfl⟩ := e
    obtain ⟨x', y', rfl, h1, h2⟩ := hv.two
    cases h1; cases h2
    refine (H0 d w).mono fun e w' he => ?_
    obtain ⟨rfl, hb⟩ := he
    obtain ⟨r', s'⟩ := r.below hb
    exact ⟨_, m, rfl, r', s', .nils⟩
  · rename_i b d
    obtain ⟨x', y', rfl, h1, h2⟩ := hv.two
    cases h2
    cases h1 with
    | ptr hL =>
      rename_i L
      obtain ⟨row, hrow, e⟩ := Option.bind_eq_some_iff.1 e
      obtain ⟨L2, cs', el, fz, k1, k2, k3, _⟩ := r.cell hrow
      obtain rfl : L2 = L := by rw [hL] at k1; exact (Option.some.inj k1).symm
      split at e
      · rename_i r0 rest _
        cases hg : h.get r0 with
        | none => rw [hg] at e; cases e
        | some ob =>
          rw [hg] at e
          cases ob with
          | row cs el st => cases e
          | map es ck =>
            simp only at e
            cases hd : (bornB es ck && decide (es.length ≤ 1073741824)) with
            | false => rw [hd] at e; cases e
            | true =>
              rw [hd] at e
              simp only [cond_true] at e
              simp only [Bool.and_eq_true, decide_eq_true_eq, bornB, List.all_eq_true] at hd
              obtain ⟨⟨d1, d2⟩, d3⟩ := hd
              obtain ⟨ns, hns, e⟩ := Option.map_eq_some_iff.1 e
              obtain ⟨L3, es', m1, m2, m3⟩ := r.map r0 es ck hg
              have hc0 : w.cell? ⟨L2.blk, 0, none⟩ = some (.map (some L3.blk)) := by
                rw [cell?_of k2]
                obtain ⟨v', hv', hr⟩ := k3.getElem? 0 (a := .map (some r0)) rfl
                rw [List.getElem?_take] at hv'
                split at hv'
                · cases hr with
                  | mp hm =>
                    rw [m1] at hm
                    cases hm
                    simpa using hv'
                · cases hv'
              have hlen : es'.size = es.length := by rw [← Array.length_toList, m3.length]
              refine (H L2.blk L3.blk es' ck d ns w hc0 m2 (by rw [m3.born]; exact nodupB_spec d1) ?_ (by omega) (by rw [namesE_rel m3]; exact hns)).mono fun ev w' he => ?_
              · intro x hx
                have hb := m3.born
                have : x.born ∈ es.map (·.born) := by rw [← hb]; exact List.mem_map_of_mem hx
                obtain ⟨y, hy, hyb⟩ := List.mem_map.1 this
                rw [← hyb]; exact d2 y hy
              · obtain ⟨hbel, he⟩ := he
                obtain ⟨r', s'⟩ := r.below hbel
                have hsl : (sortB ns).length = ns.length := (sortB_perm ns).length_eq
                rcases he with ⟨rfl, rfl⟩ | ⟨g, cap, cs2, rfl, n1, n2, n3, n4, n5, n6⟩
                · simp only [sortB, Prod.mk.injEq] at e
                  obtain ⟨rfl, rfl⟩ := e
                  exact ⟨_, m, rfl, r', s', .nils⟩
                · cases hs : sortB ns with
                  | nil => rw [hs] at hsl; simp at hsl; exact absurd (List.length_eq_zero_iff.1 hsl.symm) n1
                  | cons s ss =>
                    rw [hs] at e hsl n6
                    simp only [Prod.mk.injEq] at e
                    obtain ⟨rfl, rfl⟩ := e
                    have hl : ((s :: ss).map encB).length = ns.length := by rw [List.length_map, hsl]
                    have hun : ∀ b L, m b = some L → L.blk ≠ g := fun b L hb hg => by have := r.rng b L hb; omega
                    have hp := r'.commitX (x := cap - ns.length) (n := 1) n4 hun (cs := (s :: ss).map encB) (by rw [hl, n6]; exact encB_rel _) hT (by rw [hl]; omega)
                    refine ⟨_, _, rfl, hp, s'.commitX r' _ n3, ?_⟩
                    rw [← hsl, List.length_cons]
                    refine .slc (Mp.upd_self _ _ _) (by omega) ?_ (.inl rfl)
                    simp only [List.length_cons] at hsl
                    show cap = (2 * (ss.length + 1) + 1) / 2 + (2 * (ss.length + 1) + 1) % 2 * (cap - (ss.length + 1))
                    rw [show (2 * (ss.length + 1) + 1) % 2 = 1 by omega]
                    omega
      · cases e
  · cases e
end Go.Ev
namespace Go.Con
open Go Go.Ev
set_option linter.unusedSimpArgs false
set_option linter.unusedVariables false
namespace Hi
theorem find_none {α : Type} {p : α → Bool} {l : List α} : l.find? p = none ↔ ∀ x ∈ l, p x = false := by
  rw [List.find?_eq_none]; simp
theorem nodup_inj {α β : Type} {f : α → β} : ∀ {l : List α}, (l.map f).Nodup → ∀ {a b : α}, a ∈ l → b ∈ l → f a = f b → a = b
  | [], _, a, b, ha, _, _ => by cases ha
  | x :: l, h, a, b, ha, hb, e => by
    simp only [List.map_cons, List.nodup_cons, List.mem_map, not_exists, not_and] at h
    rcases List.mem_cons.1 ha with ea | ma <;> rcases List.mem_cons.1 hb with eb | mb
    · rw [ea, eb]
    · exact absurd (e.symm.trans (congrArg f ea)) (h.1 b mb)
    · exact absurd (e.trans (congrArg f eb)) (h.1 a ma)
    · exact nodup_inj h.2 ma mb e
section
variable {T : Hi}
theorem get_none {k : Int × ByteArray} : T.getF k = none ↔ ∀ e ∈ T.L, e.key ≠ k := by
  unfold getF
  rw [Option.map_eq_none_iff, find_none]
  simp
theorem get_some {k : Int × ByteArray} {i : Nat} (h : T.getF k = some i) : ∃ e ∈ T.L, e.key = k ∧ e.id = i := by
  unfold getF at h
  obtain ⟨e, h1, h2⟩ := Option.map_eq_some_iff.1 h
  have h3 := List.find?_some h1
  exact ⟨e, List.mem_of_find?_eq_some h1, of_decide_eq_true h3, h2⟩
theorem Ok.uniq (ok : T.Ok) {a b : En} (ha : a ∈ T.L) (hb : b ∈ T.L) (h : a.key = b.key) : a = b :=
  nodup_inj ok.keys ha hb h
theorem Ok.get_of (ok : T.Ok) {e : En} (h : e ∈ T.L) : T.getF e.key = some e.id := by
  cases hf : T.getF e.key with
  | none => exact absurd rfl (get_none.1 hf e h)
  | some i =>
    obtain ⟨x, h1, h2, h3⟩ := get_some hf
    rw [ok.uniq h1 h h2] at h3
    rw [h3]
theorem seg_none {u : Int} : T.seg u = none ↔ ∀ e ∈ T.L, T.isSeg u e.id = false := by
  unfold seg
  rw [Option.map_eq_none_iff, find_none]
theorem seg_some {u : Int} {i : Nat} (h : T.seg u = some i) : ∃ e ∈ T.L, T.isSeg u e.id = true ∧ e.id = i := by
  unfold seg at h
  obtain ⟨e, h1, h2⟩ := Option.map_eq_some_iff.1 h
  have h3 := List.find?_some h1
  exact ⟨e, List.mem_of_find?_eq_some h1, h3, h2⟩
theorem Ok.seg_of (ok : T.Ok) {e : En} (h : e ∈ T.L) {u : Int} (hu : T.isSeg u e.id = true) : T.seg u = some e.id := by
  cases hf : T.seg u with
  | none => have := seg_none.1 hf e h; rw [hu] at this; cases this
  | some i =>
    obtain ⟨x, h1, h2, h3⟩ := seg_some hf
    simp only [isSeg, Bool.and_eq_true, decide_eq_true_eq] at hu h2
    rw [← h3, ok.uids x h1 e h h2.1 hu.1 (h2.2.trans hu.2.symm)]
theorem br_snoc {B : List Bn} {L L' : List En} {D D' : List Bool} {c : Bn} {i : Nat} (h : i < B.length) : (Hi.mk (B ++ [c]) L D).br i = (Hi.mk B L' D').br i := by
  unfold br; rw [List.getElem?_append_left h]
theorem br_new {B : List Bn} {L : List En} {D : List Bool} {c : Bn} : (Hi.mk (B ++ [c]) L D).br B.length = c := by
  unfold br; simp
end
section
variable {B : List Bn} {L : List En} {D : List Bool} {e : En}
theorem is_snoc (B' : List Bn) (L' : List En) (d : Int) : (Hi.mk B' L' (D ++ [true])).is d = if d = D.length then true else (Hi.mk B L D).is d := by
  unfold is
  by_cases h : d = D.length
  · subst h; simp
  · rw [if_neg h]
    by_cases h0 : 0 ≤ d
    · simp only [h0, decide_true, Bool.true_and]
      by_cases hl : d.toNat < D.length
      · rw [List.getElem?_append_left hl]
      · rw [List.getElem?_append_right (by omega), List.getElem?_eq_none (show D.length ≤ d.toNat by omega)]
        have : d.toNat - D.length ≠ 0 := by omega
        cases hh : d.toNat - D.length with
        | zero => exact absurd hh this
        | succ n => simp
    · simp [h0]
theorem seg_named (h : ∃ x ∈ L, x.id = e.id) : (Hi.mk B (L ++ [e]) D).seg = (Hi.mk B L D).seg := by
  obtain ⟨x, hx, he⟩ := h
  funext u
  unfold seg
  simp only [List.find?_append]
  have hs : ∀ i, (Hi.mk B (L ++ [e]) D).isSeg u i = (Hi.mk B L D).isSeg u i := fun _ => rfl
  simp only [hs]
  cases hf : L.find? (fun x => (Hi.mk B L D).isSeg u x.id) with
  | some y => simp
  | none =>
    have := find_none.1 hf x hx
    rw [he] at this
    simp [this]
end
section
variable {T : Hi}
theorem Ok.get_iff (ok : T.Ok) {k : Int × ByteArray} {i : Nat} : T.getF k = some i ↔ ∃ e ∈ T.L, e.key = k ∧ e.id = i :=
  ⟨get_some, fun ⟨e, h1, h2, h3⟩ => by rw [← h2, ← h3]; exact ok.get_of h1⟩
theorem Ok.seg_iff (ok : T.Ok) {u : Int} {i : Nat} : T.seg u = some i ↔ ∃ e ∈ T.L, T.isSeg u e.id = true ∧ e.id = i :=
  ⟨seg_some, fun ⟨e, h1, h2, h3⟩ => by rw [← h3]; exact ok.seg_of h1 h2⟩
theorem filter_one {α β : Type} [DecidableEq β] {f : α → β} : ∀ {l : List α}, (l.map f).Nodup → ∀ {a : α}, a ∈ l → l.filter (fun x => decide (f x = f a)) = [a]
  | [], _, a, ha => by cases ha
  | x :: l, h, a, ha => by
    have h0 := h
    simp only [List.map_cons, List.nodup_cons, List.mem_map, not_exists, not_and] at h
    by_cases hx : f x = f a
    · have : x = a := nodup_inj h0 (by simp) ha hx
      subst this
      rw [List.filter_cons_of_pos (by simp)]
      congr 1
      rw [List.filter_eq_nil_iff]
      intro y hy hd
      exact h.1 y hy (of_decide_eq_true hd)
    · have hm : a ∈ l := by
        rcases List.mem_cons.1 ha with rfl | h
        · exact absurd rfl hx
        · exact h
      rw [List.filter_cons_of_neg (by simpa using hx)]
      exact filter_one h.2 hm
theorem countP_split {α : Type} (p q : α → Bool) : ∀ l : List α, l.countP p = (l.filter q).countP p + (l.filter fun x => !q x).countP p
  | [] => rfl
  | a :: l => by
    have ih := countP_split p q l
    cases hq : q a <;> cases hp : p a <;> simp [List.filter_cons, List.countP_cons, hq, hp, ih] <;> omega
theorem Ok.less (ok : T.Ok) (p : En → Bool) : (Hi.mk T.B (T.L.filter p) T.D).Ok where
  ids := fun e he => ok.ids e (List.mem_filter.1 he).1
  keys := (List.filter_sublist.map _).nodup ok.keys
  dirs := fun e he => ok.dirs e (List.mem_filter.1 he).1
  homes := fun a ha b hb => ok.homes a (List.mem_filter.1 ha).1 b (List.mem_filter.1 hb).1
  uids := fun a ha b hb => ok.uids a (List.mem_filter.1 ha).1 b (List.mem_filter.1 hb).1
  subs := fun e he => ok.subs e (List.mem_filter.1 he).1
  few := ok.few
  root := ok.root
theorem Ok.take (ok : T.Ok) {e : En} (he : e ∈ T.L) : (T.taken e.dir e.name).Ok ∧ (T.taken e.dir e.name).getF = upd T.getF e.key none ∧ (∀ d, T.count d = (T.taken e.dir e.name).count d + if e.dir = d then 1 else 0) ∧
    (∀ i, T.many i = (T.taken e.dir e.name).many i + if e.id = i then 1 else 0) := by
  have ok' : (T.taken e.dir e.name).Ok := ok.less _
  have f1 := filter_one (f := En.key) ok.keys he
  refine ⟨ok', ?_, fun d => ?_, fun i => ?_⟩
  · funext k
    unfold upd
    by_cases hk : k = e.key
    · rw [if_pos hk, get_none]
      intro x hx
      have := (List.mem_filter.1 hx).2
      subst hk
      simp only [Bool.not_eq_true', decide_eq_false_iff_not] at this; exact this
    · rw [if_neg hk]
      apply Option.ext
      intro i
      rw [ok'.get_iff, ok.get_iff]
      constructor
      · rintro ⟨x, hx, h1, h2⟩; exact ⟨x, (List.mem_filter.1 hx).1, h1, h2⟩
      · rintro ⟨x, hx, h1, h2⟩
        refine ⟨x, List.mem_filter.2 ⟨hx, ?_⟩, h1, h2⟩
        have : x.key ≠ (e.dir, e.name) := by rw [h1]; exact hk
        simp only [Bool.not_eq_true', decide_eq_false_iff_not]; exact this
  · have := countP_split (fun x : En => decide (x.dir = d)) (fun x => decide (x.key = e.key)) T.L
    unfold count
    rw [this, f1, Nat.add_comm]
    simp only [List.countP_singleton, decide_eq_true_eq]
    rfl
  · have := countP_split (fun x : En => decide (x.id = i)) (fun x => decide (x.key = e.key)) T.L
    unfold many
    rw [this, f1, Nat.add_comm]
    simp only [List.countP_singleton, decide_eq_true_eq]
    rfl
theorem count_pos {d : Int} : 0 < T.count d ↔ ∃ e ∈ T.L, e.dir = d := by
  unfold count; rw [List.countP_pos_iff]; simp
end
section
variable {T : Hi}
theorem Ok.named (ok : T.Ok) {d : Int} {n m : ByteArray} {i : Nat} (hg : T.get d n = some i) (hm : T.get d m = none) : (T.named d m i).Ok ∧ (T.named d m i).seg = T.seg := by
  obtain ⟨e, h1, h2, h3⟩ := get_some hg
  have hd : e.dir = d := congrArg Prod.fst h2
  have mem : ∀ {x}, x ∈ (T.named d m i).L → x ∈ T.L ∨ x = ⟨d, i, m⟩ := fun h => by simpa [Hi.named] using h
  have hi : ∀ {x}, x ∈ (T.named d m i).L → ∃ y ∈ T.L, y.id = x.id ∧ y.dir = x.dir := fun {x} h => by
    rcases mem h with h | rfl
    · exact ⟨x, h, rfl, rfl⟩
    · exact ⟨e, h1, h3, hd⟩
  refine ⟨⟨fun x hx => ?_, ?_, fun x hx => ?_, fun a ha b hb hab => ?_, fun a ha b hb => ?_, fun x hx => ?_, ok.few, ok.root⟩, ?_⟩
  · obtain ⟨y, hy, e1, _⟩ := hi hx; rw [← e1]; exact ok.ids y hy
  · simp only [Hi.named, List.map_append, List.map_cons, List.map_nil, List.nodup_append]
    refine ⟨ok.keys, by simp, fun a ha b hb => ?_⟩
    simp only [List.mem_singleton] at hb
    subst hb
    obtain ⟨x, hx, rfl⟩ := List.mem_map.1 ha
    exact get_none.1 hm x hx
  · obtain ⟨y, hy, _, e2⟩ := hi hx; rw [← e2]; exact ok.dirs y hy
  · obtain ⟨y, hy, e1, e2⟩ := hi ha
    obtain ⟨z, hz, f1, f2⟩ := hi hb
    rw [← e2, ← f2]; exact ok.homes y hy z hz (by rw [e1, f1, hab])
  · obtain ⟨y, hy, e1, e2⟩ := hi ha
    obtain ⟨z, hz, f1, f2⟩ := hi hb
    rw [← e1, ← f1]; exact ok.uids y hy z hz
  · obtain ⟨y, hy, e1, _⟩ := hi hx; rw [← e1]; exact ok.subs y hy
  · exact seg_named ⟨e, h1, h3⟩
theorem Ok.added (ok : T.Ok) {d : Int} {n : ByteArray} {b : Bn} (hw : T.why d n b = 0) : (T.added d n b).Ok := by
  unfold why at hw
  split at hw
  · simp at hw
  rename_i his
  split at hw
  · simp at hw
  split at hw
  · simp at hw
  rename_i hg
  have hg' : T.get d n = none := by cases h : T.get d n <;> simp_all
  have his' : T.is d = true := by simpa using his
  have mem : ∀ {x}, x ∈ (T.added d n b).L → x ∈ T.L ∨ x = ⟨d, T.B.length, n⟩ := fun h => by simpa [Hi.added] using h
  have hbr : ∀ x ∈ T.L, (T.added d n b).br x.id = T.br x.id := fun x hx => br_snoc (ok.ids x hx)
  have hnew : (T.added d n b).br T.B.length = T.clean b := br_new
  have hlen : (T.added d n b).B.length = T.B.length + 1 := by simp [Hi.added]
  have hD : T.D.length ≤ (T.added d n b).D.length := by unfold Hi.added; dsimp only; split <;> simp
  have hisn : ∀ d', T.is d' = true → (T.added d n b).is d' = true := fun d' h => by
    unfold Hi.added
    by_cases hk : b.kind = 2
    · simp only [hk, if_true]
      rw [is_snoc (L := T.L) (B := T.B)]
      split
      · rfl
      · exact h
    · simp only [hk, if_false]; exact h
  have hck : (T.clean b).kind = 1 → b.kind = 1 ∧ (T.clean b).uid = b.uid := fun h => by
    unfold clean at h ⊢
    split at h
    · rename_i hk; exact ⟨hk, by rw [if_pos hk]⟩
    · split at h <;> simp at h
  have hseg : (T.clean b).kind = 1 → T.seg b.uid = none := fun h => by
    have h1 := (hck h).1
    unfold cleanE at hw
    rw [if_pos h1] at hw
    split at hw
    · simp at hw
    · split at hw
      · simp at hw
      · rename_i h2; cases hs : T.seg b.uid <;> simp_all
  refine ⟨fun x hx => ?_, ?_, fun x hx => ?_, fun a ha c hc hac => ?_, fun a ha c hc ka kc hu => ?_, fun x hx hk => ?_, ?_, ?_⟩
  · rcases mem hx with h | rfl
    · have := ok.ids x h; omega
    · simp [hlen]
  · simp only [Hi.added, List.map_append, List.map_cons, List.map_nil, List.nodup_append]
    refine ⟨ok.keys, by simp, fun a ha c hc => ?_⟩
    simp only [List.mem_singleton] at hc
    subst hc
    obtain ⟨x, hx, rfl⟩ := List.mem_map.1 ha
    exact get_none.1 hg' x hx
  · rcases mem hx with h | rfl
    · exact hisn _ (ok.dirs x h)
    · exact hisn _ his'
  · rcases mem ha with h1 | rfl <;> rcases mem hc with h2 | rfl
    · exact ok.homes a h1 c h2 hac
    · have := ok.ids a h1; simp at hac; omega
    · have := ok.ids c h2; simp at hac; omega
    · rfl
  · rcases mem ha with h1 | rfl <;> rcases mem hc with h2 | rfl
    · rw [hbr a h1] at ka hu; rw [hbr c h2] at kc hu; exact ok.uids a h1 c h2 ka kc hu
    · rw [hbr a h1] at ka hu
      simp only [hnew] at kc hu
      have := seg_none.1 (hseg kc) a h1
      rw [(hck kc).2] at hu
      simp [isSeg, ka, hu] at this
    · rw [hbr c h2] at kc hu
      simp only [hnew] at ka hu
      have := seg_none.1 (hseg ka) c h2
      rw [(hck ka).2] at hu
      simp [isSeg, kc, ← hu] at this
    · rfl
  · rcases mem hx with h | rfl
    · rw [hbr x h] at hk ⊢
      have := ok.subs x h hk
      omega
    · simp only [hnew] at hk ⊢
      have hb : b.kind = 2 := by
        unfold clean at hk
        split at hk
        · simp at hk
        · split at hk
          · assumption
          · simp at hk
      have h0 : T.D.length ≠ 0 := fun h0 => by
        have := ok.root
        unfold is at this
        rw [List.length_eq_zero_iff.1 h0] at this
        simp at this
      unfold clean Hi.added
      simp only [hb, if_true, show ¬ (2 : Int) = 1 by decide, if_false, List.length_append, List.length_singleton]
      omega
  · have := ok.few
    rw [hlen]
    unfold Hi.added; dsimp only
    split
    · simp; omega
    · omega
  · exact hisn _ ok.root
end
end Hi
end Go.Con
namespace Go.Con
open Go Go.Ev
set_option linter.unusedSimpArgs false
set_option linter.unusedVariables false
namespace Hi
variable {T : Hi}
def memB (S : List ByteArray) (x : ByteArray) : Bool := S.any fun y => decide (y = x)
def part (T : Hi) (i : Nat) (S : List ByteArray) : Hi := { T with L := T.L.filter fun e => !(decide (e.id = i) && memB S e.name) }
theorem Ok.part (ok : T.Ok) (i : Nat) (S : List ByteArray) : (T.part i S).Ok := ok.less _
theorem is_set {B : List Bn} {L : List En} {x : Int} (hx : 0 ≤ x) (d : Int) : (Hi.mk B L (T.D.set x.toNat false)).is d = if d = x then false else T.is d := by
  unfold is
  by_cases h : d = x
  · subst h
    rw [if_pos rfl]
    by_cases hl : d.toNat < T.D.length
    · simp [hl]
    · simp [List.getElem?_eq_none (show (T.D.set d.toNat false).length ≤ d.toNat by simp; omega)]
  · rw [if_neg h]
    by_cases h0 : 0 ≤ d
    · rw [List.getElem?_set_ne (by omega)]
    · simp [h0]
theorem Ok.gone (ok : T.Ok) {d : Int} {n : ByteArray} {i : Nat} (hg : T.get d n = some i) (hc : (T.br i).kind = 2 → T.count (T.br i).dir = 0) : (T.gone i).Ok ∧ (T.gone i).getF = (Hi.mk T.B (T.L.filter fun e => !decide (e.id = i)) T.D).getF ∧
    (T.gone i).seg = (if (T.br i).kind = 1 then upd T.seg (T.br i).uid none else T.seg) ∧
    (T.gone i).dirF = (if (T.br i).kind = 2 then upd (Hi.mk T.B (T.L.filter fun e => !decide (e.id = i)) T.D).dirF (T.br i).dir none else (Hi.mk T.B (T.L.filter fun e => !decide (e.id = i)) T.D).dirF) := by
  obtain ⟨e0, h1, h2, h3⟩ := get_some hg
  have hsub := ok.subs e0 h1
  rw [h3] at hsub
  have base := ok.less fun e => !decide (e.id = i)
  have hx : ∀ d', (T.gone i).is d' = if (T.br i).kind = 2 ∧ d' = (T.br i).dir then false else T.is d' := fun d' => by
    unfold Hi.gone
    by_cases hk : (T.br i).kind = 2
    · simp only [hk, if_true, true_and]
      exact is_set (by have := hsub hk; omega) d'
    · simp [hk]; rfl
  have mem : ∀ {x}, x ∈ (T.gone i).L → x ∈ T.L := fun h => (List.mem_filter.1 h).1
  have ok' : (T.gone i).Ok := by
    refine ⟨base.ids, base.keys, fun x hm => ?_, base.homes, base.uids, fun x hm hk => ?_, ?_, ?_⟩
    · rw [hx, if_neg]
      · exact ok.dirs x (mem hm)
      · rintro ⟨hk, hd⟩
        have := hc hk
        have hp : 0 < T.count (T.br i).dir := count_pos.2 ⟨x, mem hm, hd⟩
        omega
    · have := ok.subs x (mem hm) hk
      have hl : (T.gone i).D.length = T.D.length := by unfold Hi.gone; dsimp only; split <;> simp
      rw [hl]; exact this
    · have hl : (T.gone i).D.length = T.D.length := by unfold Hi.gone; dsimp only; split <;> simp
      have := ok.few
      show (T.gone i).D.length ≤ T.B.length + 1
      omega
    · rw [hx, if_neg]
      · exact ok.root
      · rintro ⟨hk, hd⟩; have := hsub hk; omega
  refine ⟨ok', rfl, ?_, ?_⟩
  · funext u
    apply Option.ext
    intro j
    rw [ok'.seg_iff]
    have hs : ∀ u j, (T.gone i).isSeg u j = T.isSeg u j := fun _ _ => rfl
    have hseg : (∃ x ∈ (T.gone i).L, T.isSeg u x.id = true ∧ x.id = j) ↔ (T.seg u = some j ∧ j ≠ i) := by
      rw [ok.seg_iff]
      constructor
      · rintro ⟨x, hm, e1, e2⟩
        refine ⟨⟨x, mem hm, e1, e2⟩, ?_⟩
        have := (List.mem_filter.1 hm).2
        rw [← e2]; simpa using this
      · rintro ⟨⟨x, hm, e1, e2⟩, hj⟩
        exact ⟨x, List.mem_filter.2 ⟨hm, by rw [e2]; simpa using hj⟩, e1, e2⟩
    simp only [hs]
    rw [hseg]
    by_cases hk : (T.br i).kind = 1
    · rw [if_pos hk]
      unfold upd
      by_cases hu : u = (T.br i).uid
      · subst hu
        rw [if_pos rfl]
        have : T.seg (T.br i).uid = some i := ok.seg_iff.2 ⟨e0, h1, by simp [isSeg, h3, hk], h3⟩
        rw [this]; simp; exact fun h => h.symm
      · rw [if_neg hu]
        constructor
        · exact fun h => h.1
        · intro h
          refine ⟨h, ?_⟩
          rintro rfl
          obtain ⟨x, _, e1, e2⟩ := seg_some h
          rw [e2] at e1
          simp [isSeg] at e1
          exact hu e1.2.symm
    · rw [if_neg hk]
      constructor
      · exact fun h => h.1
      · intro h
        refine ⟨h, ?_⟩
        rintro rfl
        obtain ⟨x, _, e1, e2⟩ := seg_some h
        rw [e2] at e1
        simp [isSeg] at e1
        exact hk e1.1
  · have hcnt : ∀ d', (T.gone i).count d' = (Hi.mk T.B (T.L.filter fun e => !decide (e.id = i)) T.D).count d' := fun _ => rfl
    have his : ∀ d', (Hi.mk T.B (T.L.filter fun e => !decide (e.id = i)) T.D).is d' = T.is d' := fun _ => rfl
    funext d'
    by_cases hk : (T.br i).kind = 2
    · rw [if_pos hk]
      unfold upd dirF
      rw [hx]
      by_cases hd : d' = (T.br i).dir
      · simp [hk, hd]
      · simp [hk, hd, his, hcnt]
    · rw [if_neg hk]
      unfold dirF
      rw [hx]
      simp [hk, his, hcnt]
end Hi
end Go.Con
namespace Go.Con
open Go
set_option linter.unusedSimpArgs false
set_option linter.unusedVariables false
structure Sto where
  quota : Int
  L : List (Option (List Int))
namespace Sto
def lenO : Option (List Int) → Nat
  | some w => w.length
  | none => 0
variable (S : Sto)
def used : Nat := (S.L.map lenO).sum
def room (u : Int) : Option (List Int) := if 1 ≤ u then (S.L[u.toNat - 1]?).join else none
def mayE (n gone : Int) : Int := if n < 0 ∨ 1024 < n then 1 else if S.quota - n < S.used - gone then 6 else 0
def made (n : Int) : Sto := { S with L := S.L ++ [some (List.replicate n.toNat 0)] }
def make (n : Int) : Sto × Int × Int := if S.mayE n 0 = 0 then (S.made n, S.L.length + 1, 0) else (S, 0, S.mayE n 0)
def setR (u : Int) (o : Option (List Int)) : Sto := { S with L := S.L.set (u.toNat - 1) o }
def drop (u : Int) : Sto × Int := match S.room u with
  | none => (S, 4)
  | some _ => (S.setR u none, 0)
def size (u : Int) : Int × Int := match S.room u with
  | none => (0, 4)
  | some w => (w.length, 0)
def read (u off : Int) : Int × Int := match S.room u with
  | none => (0, 4)
  | some w => if off < 0 ∨ w.length ≤ off then (0, 8) else ((w[off.toNat]?).getD 0, 0)
def cut36 (x : Int) : Int := x % 68719476736
def write (u off x : Int) : Sto × Int := match S.room u with
  | none => (S, 4)
  | some w => if off < 0 ∨ w.length ≤ off then (S, 8) else (S.setR u (some (w.set off.toNat (cut36 x))), 0)
structure Ok : Prop where
  quota : 0 ≤ S.quota
  used : (S.used : Int) ≤ S.quota
  len : ∀ u w, S.room u = some w → w.length ≤ 1024
  words : ∀ u w, S.room u = some w → ∀ x ∈ w, 0 ≤ x ∧ x < 68719476736
variable {S}
theorem room_some {u : Int} {w : List Int} (h : S.room u = some w) : 1 ≤ u ∧ u.toNat - 1 < S.L.length ∧ S.L[u.toNat - 1]? = some (some w) := by
  unfold room at h
  by_cases h1 : 1 ≤ u
  · rw [if_pos h1] at h
    cases hx : S.L[u.toNat - 1]? with
    | none => rw [hx] at h; cases h
    | some o =>
      rw [hx] at h
      have h : o = some w := h
      subst h
      exact ⟨h1, (List.getElem?_eq_some_iff.1 hx).1, rfl⟩
  · rw [if_neg h1] at h; cases h
theorem sum_set (f : Option (List Int) → Nat) : ∀ (L : List (Option (List Int))) (i : Nat) (o p : Option (List Int)), L[i]? = some p → ((L.set i o).map f).sum + f p = (L.map f).sum + f o
  | [], i, o, p, h => by simp at h
  | a :: L, 0, o, p, h => by simp at h; subst h; simp; omega
  | a :: L, i + 1, o, p, h => by
    have := sum_set f L i o p (by simpa using h)
    simp only [List.set_cons_succ, List.map_cons, List.sum_cons]; omega
theorem used_setR {u : Int} {w : List Int} (h : S.room u = some w) (o : Option (List Int)) : (S.setR u o).used + w.length = S.used + lenO o := by
  obtain ⟨_, _, h3⟩ := room_some h
  exact sum_set lenO S.L _ o _ h3
theorem room_setR {u : Int} {w : List Int} (h : S.room u = some w) (o : Option (List Int)) (x : Int) : (S.setR u o).room x = if x = u then o else S.room x := by
  obtain ⟨h1, h2, h3⟩ := room_some h
  unfold room setR
  by_cases hx : x = u
  · subst hx
    rw [if_pos h1, if_pos rfl]
    simp [h2]
  · rw [if_neg hx]
    by_cases h4 : 1 ≤ x
    · rw [if_pos h4, if_pos h4, List.getElem?_set_ne (by omega)]
    · rw [if_neg h4, if_neg h4]
theorem used_made (n : Int) : (S.made n).used = S.used + n.toNat := by
  unfold used made; simp [lenO]
theorem room_made (n : Int) (x : Int) : (S.made n).room x = if x = S.L.length + 1 then some (List.replicate n.toNat 0) else S.room x := by
  unfold room made
  by_cases hx : x = S.L.length + 1
  · subst hx
    rw [if_pos (by omega), if_pos rfl]
    have : ((S.L.length : Int) + 1).toNat - 1 = S.L.length := by omega
    rw [this]; simp
  · rw [if_neg hx]
    by_cases h4 : 1 ≤ x
    · rw [if_pos h4, if_pos h4]
      by_cases h5 : x.toNat - 1 < S.L.length
      · rw [List.getElem?_append_left h5]
      · rw [List.getElem?_eq_none (by simp; omega), List.getElem?_eq_none (by omega)]
    · rw [if_neg h4, if_neg h4]
theorem Ok.new {q : Int} : Ok ⟨max q 0, []⟩ := by
  refine ⟨by show (0 : Int) ≤ max q 0; omega, by show ((0 : Nat) : Int) ≤ max q 0; omega, fun u w h => ?_, fun u w h => ?_⟩
  · have := (room_some h).2.1; simp at this
  · have := (room_some h).2.1; simp at this
theorem mayE_zero {n g : Int} (h : S.mayE n g = 0) : 0 ≤ n ∧ n ≤ 1024 ∧ (S.used : Int) - g ≤ S.quota - n := by
  unfold mayE at h
  split at h
  · cases h
  · split at h
    · cases h
    · omega
theorem Ok.made (ok : S.Ok) {n : Int} (h : S.mayE n 0 = 0) : (S.made n).Ok := by
  obtain ⟨h1, h2, h3⟩ := mayE_zero h
  refine ⟨ok.quota, ?_, fun u w hr => ?_, fun u w hr => ?_⟩
  · rw [used_made]; show _ ≤ S.quota; omega
  · rw [room_made] at hr
    split at hr
    · cases hr; simp; omega
    · exact ok.len u w hr
  · rw [room_made] at hr
    split at hr
    · cases hr; intro x hx; obtain ⟨_, rfl⟩ := List.mem_replicate.1 hx; omega
    · exact ok.words u w hr
theorem Ok.set (ok : S.Ok) {u : Int} {w w' : List Int} (h : S.room u = some w) (hl : w'.length ≤ 1024) (hq : (S.used : Int) - w.length + w'.length ≤ S.quota) (hw : ∀ x ∈ w', 0 ≤ x ∧ x < 68719476736) : (S.setR u (some w')).Ok := by
  have hu := used_setR h (some w')
  refine ⟨ok.quota, ?_, fun v z hr => ?_, fun v z hr => ?_⟩
  · simp only [lenO] at hu; show ((S.setR u (some w')).used : Int) ≤ S.quota; omega
  · rw [room_setR h] at hr
    split at hr
    · cases hr; exact hl
    · exact ok.len v z hr
  · rw [room_setR h] at hr
    split at hr
    · cases hr; exact hw
    · exact ok.words v z hr
end Sto
def fineB (b : Bk) (r : Int) : Bool := bkMay b && decide (0 ≤ r) && decide (r ≤ 7)
def readE (b : Bk) (f : Fl) (r : Int) : Int := if fineB b r = false then 1 else if f.r = false then 9 else if b.r2 < r then 10 else 0
def writeE (b : Bk) (f : Fl) (r : Int) : Int := if fineB b r = false then 1 else if f.w = false then 9 else if b.r1 < r then 10 else 0
def callE (b : Bk) (f : Fl) (r off : Int) : Int × Int := if fineB b r = false then (0, 1) else if f.e = false then (0, 9) else if r < b.r1 ∨ b.r3 < r then (0, 10) else if r ≤ b.r2 then (r, 0) else if off < 0 ∨ b.g ≤ off then (0, 11) else (b.r2, 0)
structure Sd where
  uid : Int
  size : Int
  f : Fl
  b : Bk
def inE (x : Sd) (e off : Int) : Int := if e = 0 ∧ (off < 0 ∨ x.size ≤ off) then 8 else e
def Sd.read (x : Sd) (r off : Int) : Int := inE x (readE x.b x.f r) off
def Sd.write (x : Sd) (r off : Int) : Int := inE x (writeE x.b x.f r) off
def Sd.call (x : Sd) (r off : Int) : Int × Int := let e := inE x (callE x.b x.f r off).2 off; if e = 0 then ((callE x.b x.f r off).1, 0) else (0, e)
end Go.Con
