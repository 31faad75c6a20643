/- Regions in the order of the text, code, calls. -/
import Derived.Test.YtncmgiddcefpcaaDoorEvJ
import Derived.LoopN
namespace Go.Ev
open Go
set_option linter.unusedSimpArgs false
set_option linter.unusedVariables false

theorem evWanted_sound {m : Mp} {nt : Nat} {fr : Fr} {a : Act} (hf : FrRel m nt fr a.tmps) {ops : Array Oper} {o : Oper} {b : Bool} (e : evWanted ops fr o = some b) : Region.wanted o (yielded ops a.tmps) = b := by
  unfold evWanted at e
  unfold Region.wanted
  split at e
  · rename_i hg; rw [hg]; simpa using e
  · rename_i j want hg
    rw [hg]
    split at e
    · rename_i c hc
      rw [Option.bind_eq_some_iff] at hc
      obtain ⟨d, hd, hc⟩ := hc
      obtain ⟨v', h1, h2⟩ := hf.get d _ hc
      cases h2
      simp only [yielded, hd, Option.bind_some, h1]
      simp at e
      subst e
      rfl
    · rename_i c hc
      rw [Option.bind_eq_some_iff] at hc
      obtain ⟨d, hd, hc⟩ := hc
      obtain ⟨v', h1, h2⟩ := hf.get d _ hc
      cases h2
      simp only [yielded, hd, Option.bind_some, h1]
      simp at e
      subst e
      rfl
    · cases e

/-- What follows of a piece of code: the state is one that the abstract one stands for. -/
def PostOf (P : Program) (m : Mp) (h : Hp) (w : World) (nt : Nat) (a : Act) (fr' : Fr) (h' : Hp) (R : Act → World → Prop) : Prop :=
  ∀ a' m' w', FrRel m' nt fr' a'.tmps → a'.defers = a.defers → Rep P m' h' w' → Step m h w m' h' w' → R a' w'

theorem put_defers (a : Act) (d : Option Tmp) (v : Value) : (a.put d v).defers = a.defers := by cases d <;> rfl

theorem evOps_wp {P : Program} {I : Inv} (hI : StepClosed I) {call : CallF} (hcall : CallOK P I call) {ops : Array Oper} {nt : Nat} {Q : Exit → Act → World → Prop} {fr' : Fr} {h' : Hp} : ∀ (l : List Oper) (fr : Fr) (h : Hp) (m : Mp) (a : Act) (w : World),
    evOps P call ops l fr h = some (fr', h') → (∀ o ∈ l, ∀ d, o.dst = some d → d < nt) → FrRel m nt fr a.tmps → Rep P m h w → I m h w → PostOf P m h w nt a fr' h' (Q .normal) → wpList P ops Q l a w
  | [], fr, h, m, a, w, e, _, hf, r, hi, hq => by
    simp only [evOps, Option.some.injEq, Prod.mk.injEq] at e
    obtain ⟨rfl, rfl⟩ := e
    exact hq a m w hf rfl r (Step.refl _ _ _)
  | o :: l, fr, h, m, a, w, e, hd, hf, r, hi, hq => by
    simp only [evOps] at e
    unfold wpList
    have hdo : ∀ d, o.dst = some d → d < nt := hd o (by simp)
    have hdl : ∀ o' ∈ l, ∀ d, o'.dst = some d → d < nt := fun o' h' => hd o' (by simp [h'])
    split at e
    · rename_i hw
      rw [evWanted_sound hf hw]
      simp only [if_true]
      split at e
      · rename_i v h1 he
        refine .inl (evOp_wp hcall r hi hf he fun v' m' w' r' s' hv => ?_)
        refine evOps_wp hI hcall l _ h1 m' _ w' e hdl ((hf.mono s'.le).put hdo hv) r' (hI _ _ _ _ _ _ hi s') fun a' m2 w2 f2 d2 r2 s2 => ?_
        exact hq a' m2 w2 f2 (d2.trans (put_defers _ _ _)) r2 (s'.trans s2)
      · cases e
    · rename_i hw
      rw [evWanted_sound hf hw]
      simp only [Bool.false_eq_true, if_false]
      refine evOps_wp hI hcall l _ h m _ w e hdl (hf.put hdo (undef_rel m)) r hi fun a' m2 w2 f2 d2 r2 s2 => ?_
      exact hq a' m2 w2 f2 (d2.trans (put_defers _ _ _)) r2 s2
    · cases e

/-- What is asked of the way in which a region that draws is carried out. -/
def DrawsOK (P : Program) (I : Inv) (draws : Nat → Array Oper → Fr → Hp → Option (Fr × Hp)) (reg : Array Oper → Bool → Bool) : Prop :=
  ∀ id ops fr h fr' h', draws id ops fr h = some (fr', h') → reg ops true = true → ∀ m nt a w, (∀ o ∈ ops.toList, ∀ d, o.dst = some d → d < nt) → FrRel m nt fr a.tmps → Rep P m h w → I m h w →
    ∀ Q, PostOf P m h w nt a fr' h' (Q .normal) → (Code.region id ops true).wp P Q a w

def exitOf : Ex → Exit
  | .norm => .normal
  | .exit id => .exit id
  | .ret => .ret

theorem evCode_wp {P : Program} {I : Inv} (hI : StepClosed I) {call : CallF} (hcall : CallOK P I call) {draws : Nat → Array Oper → Fr → Hp → Option (Fr × Hp)} {reg : Array Oper → Bool → Bool} (hdraws : DrawsOK P I draws reg) {fuel nt0 nt : Nat} (hnt : nt0 ≤ nt) : ∀ (c : Code) (fr : Fr) (h : Hp) (ex : Ex) (fr' : Fr) (h' : Hp),
    evCode P call draws fuel c fr h = some (ex, fr', h') → codeOk nt0 reg c = true → ∀ (m : Mp) (a : Act) (w : World), FrRel m nt fr a.tmps → Rep P m h w → I m h w → ∀ Q : Exit → Act → World → Prop, PostOf P m h w nt a fr' h' (Q (exitOf ex)) → c.wp P Q a w := by
  intro c
  induction c with
  | skip =>
    intro fr h ex fr' h' e _ m a w hf r hi Q hq
    simp only [evCode, Option.some.injEq, Prod.mk.injEq] at e
    obtain ⟨rfl, rfl, rfl⟩ := e
    exact wp_skip (hq a m w hf rfl r (Step.refl _ _ _))
  | region id ops draw =>
    intro fr h ex fr' h' e hok m a w hf r hi Q hq
    simp only [codeOk, Bool.and_eq_true, List.all_eq_true] at hok
    have hd : ∀ o ∈ ops.toList, ∀ d, o.dst = some d → d < nt := fun o ho d hd => by
      have := hok.1 o ho
      simp only [hd, decide_eq_true_eq] at this
      exact Nat.lt_of_lt_of_le this hnt
    simp only [evCode] at e
    cases draw with
    | true =>
      simp only [cond_true] at e
      split at e
      · rename_i fr1 h1 he
        simp only [Option.some.injEq, Prod.mk.injEq] at e
        obtain ⟨rfl, rfl, rfl⟩ := e
        exact hdraws id ops fr h fr1 h1 he hok.2 m nt a w hd hf r hi Q hq
      · cases e
    | false =>
      simp only [cond_false] at e
      split at e
      · rename_i fr1 h1 he
        simp only [Option.some.injEq, Prod.mk.injEq] at e
        obtain ⟨rfl, rfl, rfl⟩ := e
        exact wp_region_list (evOps_wp hI hcall ops.toList fr h m a w he hd hf r hi hq)
      · cases e
  | seq x y ihx ihy =>
    intro fr h ex fr' h' e hok m a w hf r hi Q hq
    simp only [codeOk, Bool.and_eq_true] at hok
    simp only [evCode] at e
    split at e
    · rename_i fr1 h1 he
      refine wp_seq (ihx fr h .norm fr1 h1 he hok.1 m a w hf r hi _ fun a1 m1 w1 f1 d1 r1 s1 => ?_)
      show Code.wp P y Q a1 w1
      refine ihy fr1 h1 ex fr' h' e hok.2 m1 a1 w1 f1 r1 (hI _ _ _ _ _ _ hi s1) Q fun a2 m2 w2 f2 d2 r2 s2 => ?_
      exact hq a2 m2 w2 f2 (d2.trans d1) r2 (s1.trans s2)
    · rename_i hne
      refine wp_seq (ihx fr h ex fr' h' e hok.1 m a w hf r hi _ fun a1 m1 w1 f1 d1 r1 s1 => ?_)
      cases ex with
      | norm => exact absurd e (hne _ _)
      | exit id => exact hq a1 m1 w1 f1 d1 r1 s1
      | ret => exact hq a1 m1 w1 f1 d1 r1 s1
  | cond c x y ihx ihy =>
    intro fr h ex fr' h' e hok m a w hf r hi Q hq
    simp only [codeOk, Bool.and_eq_true] at hok
    simp only [evCode] at e
    split at e
    · rename_i hc
      have hr := ev1_sound hf hc
      generalize he : a.eval c = c' at hr
      cases hr
      exact wp_cond_true he (ihx fr h ex fr' h' e hok.1 m a w hf r hi Q hq)
    · rename_i hc
      have hr := ev1_sound hf hc
      generalize he : a.eval c = c' at hr
      cases hr
      exact wp_cond_false he (ihy fr h ex fr' h' e hok.2 m a w hf r hi Q hq)
    · cases e
  | block id x ih =>
    intro fr h ex fr' h' e hok m a w hf r hi Q hq
    simp only [codeOk] at hok
    simp only [evCode] at e
    split at e
    · rename_i j fr1 h1 he
      cases hj : Nat.beq j id with
      | true =>
        rw [hj] at e; simp only [cond_true, Option.some.injEq, Prod.mk.injEq] at e
        obtain ⟨rfl, rfl, rfl⟩ := e
        have hj' := Nat.eq_of_beq_eq_true hj
        subst hj'
        refine wp_block (ih fr h _ fr1 h1 he hok m a w hf r hi _ fun a1 m1 w1 f1 d1 r1 s1 => ?_)
        simp only [exitOf, Exit.inBlock, if_true]
        exact hq a1 m1 w1 f1 d1 r1 s1
      | false =>
        rw [hj] at e; simp only [cond_false, Option.some.injEq, Prod.mk.injEq] at e
        obtain ⟨rfl, rfl, rfl⟩ := e
        have hj' : j ≠ id := fun h0 => by subst h0; simp at hj
        refine wp_block (ih fr h _ fr1 h1 he hok m a w hf r hi _ fun a1 m1 w1 f1 d1 r1 s1 => ?_)
        simp only [exitOf, Exit.inBlock, if_neg hj']
        exact hq a1 m1 w1 f1 d1 r1 s1
    · rename_i hne
      refine wp_block (ih fr h ex fr' h' e hok m a w hf r hi _ fun a1 m1 w1 f1 d1 r1 s1 => ?_)
      cases ex with
      | norm => exact hq a1 m1 w1 f1 d1 r1 s1
      | exit id => exact absurd e (hne _ _ _)
      | ret => exact hq a1 m1 w1 f1 d1 r1 s1
  | loop x ih =>
    intro fr h ex fr' h' e hok m a w hf r hi Q hq
    simp only [codeOk] at hok
    simp only [evCode] at e
    refine wp_loop_rounds fuel ?_
    have key : ∀ (n : Nat) (fr : Fr) (h : Hp) (m : Mp) (a : Act) (w : World), iter (evCode P call draws fuel x) n fr h = some (ex, fr', h') → FrRel m nt fr a.tmps → Rep P m h w → I m h w → PostOf P m h w nt a fr' h' (Q (exitOf ex)) → Code.rounds P x Q n a w := by
      intro n
      induction n with
      | zero => intro fr h m a w e; simp [iter] at e
      | succ n ihn =>
        intro fr h m a w e hf r hi hq
        simp only [iter] at e
        rw [rounds_succ]
        split at e
        · rename_i fr1 h1 he
          refine ih fr h .norm fr1 h1 he hok m a w hf r hi _ fun a1 m1 w1 f1 d1 r1 s1 => ?_
          show Code.rounds P x Q n a1 w1
          refine ihn fr1 h1 m1 a1 w1 e f1 r1 (hI _ _ _ _ _ _ hi s1) fun a2 m2 w2 f2 d2 r2 s2 => ?_
          exact hq a2 m2 w2 f2 (d2.trans d1) r2 (s1.trans s2)
        · rename_i hne
          refine ih fr h ex fr' h' e hok m a w hf r hi _ fun a1 m1 w1 f1 d1 r1 s1 => ?_
          cases ex with
          | norm => exact absurd e (hne _ _)
          | exit id => exact hq a1 m1 w1 f1 d1 r1 s1
          | ret => exact hq a1 m1 w1 f1 d1 r1 s1
    exact key fuel fr h m a w e hf r hi hq
  | exit id =>
    intro fr h ex fr' h' e _ m a w hf r hi Q hq
    simp only [evCode, Option.some.injEq, Prod.mk.injEq] at e
    obtain ⟨rfl, rfl, rfl⟩ := e
    exact wp_exit (hq a m w hf rfl r (Step.refl _ _ _))
  | ret =>
    intro fr h ex fr' h' e _ m a w hf r hi Q hq
    simp only [evCode, Option.some.injEq, Prod.mk.injEq] at e
    obtain ⟨rfl, rfl, rfl⟩ := e
    exact wp_ret (hq a m w hf rfl r (Step.refl _ _ _))
  | rangeFunc f ps as b _ _ => intro fr h ex fr' h' e; simp [evCode] at e
  | scope b _ => intro fr h ex fr' h' e; simp [evCode] at e
  | label l => intro fr h ex fr' h' e; simp [evCode] at e
  | goto l => intro fr h ex fr' h' e; simp [evCode] at e
  | refuse why => intro fr h ex fr' h' e; simp [evCode] at e

/-! ### what a function hands back -/
theorem evResult_sound {P : Program} {m : Mp} {nt : Nat} {fr : Fr} {a : Act} {h : Hp} {w : World} (r : Rep P m h w) (hf : FrRel m nt fr a.tmps) {x : ResultVar} {v : Value} (e : evResult P fr h x = some v) :
    ∃ v', ((match x with
      | .tmp t => pure (a.tmps.getD t undef)
      | .cell c t => do loadVar t (← asAddr (a.tmps.getD c undef))) : Sem Value).run P w = .ok v' w ∧ VRel m v v' := by
  unfold evResult at e
  cases x with
  | tmp t =>
    simp only at e ⊢
    exact ⟨_, rfl, ev1_sound (x := .tmp t) hf e⟩
  | cell c t =>
    simp only [Option.bind_eq_some_iff] at e ⊢
    obtain ⟨u, hu, e⟩ := e
    have hr := ev1_sound (x := .tmp c) hf hu
    obtain ⟨v', h1, h2⟩ := evLoad_sound r e hr
    refine ⟨v', ?_, h2⟩
    simp only [Act.eval] at h1 hr
    generalize a.tmps.getD c undef = cc at *
    unfold evLoad at e
    split at e
    · cases hr
      simpa [Instr.loadAt, Instr.sureAddr, asAddr] using h1
    · cases e

theorem evResults_sound {P : Program} {m : Mp} {nt : Nat} {fr : Fr} {a : Act} {h : Hp} {w : World} (r : Rep P m h w) (hf : FrRel m nt fr a.tmps) : ∀ {xs : List ResultVar} {vs : List Value}, evResults P fr h xs = some vs →
    ∃ vs', (xs.mapM (fun (x : ResultVar) => (match x with
      | .tmp t => pure (a.tmps.getD t undef)
      | .cell c t => do loadVar t (← asAddr (a.tmps.getD c undef)) : Sem Value))).run P w = .ok vs' w ∧ VL m vs vs'
  | [], vs, e => by simp [evResults] at e; subst e; exact ⟨[], by simp, .nil⟩
  | x :: xs, vs, e => by
    simp only [evResults, Option.bind_eq_some_iff, Option.some.injEq] at e
    obtain ⟨v, hv, us, hus, rfl⟩ := e
    obtain ⟨v', h1, h2⟩ := evResult_sound r hf hv
    obtain ⟨us', h3, h4⟩ := evResults_sound r hf hus
    refine ⟨v' :: us', ?_, .cons h2 h4⟩
    simp only [List.mapM_cons, Sem.run_bind, h1, h3, Result.andThen_ok, Sem.run_pure]

theorem results_sound {P : Program} {m : Mp} {nt : Nat} {fr : Fr} {a : Act} {h : Hp} {w : World} (r : Rep P m h w) (hf : FrRel m nt fr a.tmps) {fn : Func} {vs : List Value} (e : evResults P fr h fn.results.toList = some vs) :
    ∃ v', (results fn a.tmps).run P w = .ok v' w ∧ VRel m (tupled vs) v' := by
  obtain ⟨vs', h1, h2⟩ := evResults_sound r hf e
  refine ⟨if h : vs'.length = 1 then vs'[0] else .tuple vs'.toArray, ?_, ?_⟩
  · unfold results
    simp only [Sem.run_bind, Array.mapM_eq_mapM_toList, Sem.run_map]
    erw [h1]
    simp
  · cases h2 with
    | nil => exact .tuple .nil
    | cons hv ht => cases ht with
      | nil => exact hv
      | cons hv2 ht2 =>
        simp only [List.length_cons, tupled]
        rw [dif_neg (by omega)]
        exact .tuple (by simpa using VL.cons hv (VL.cons hv2 ht2))

/-- A CONTEXT THAT HOLDS. -/
structure CtxOK (C : Ctx) (I : Inv) (reg : Array Oper → Bool → Bool) : Prop where
  mask : ∀ f, C.mask.testBit f = true → ∃ fn c, C.P.funcs[f]? = some fn ∧ (fn.name == "runtime.NumGoroutine") = false ∧ fn.body = some c ∧ codeOk fn.ntmps reg c = true
  sums : ∀ f s, C.S f = some s → ∀ args h v h', s args h = some (v, h') → GoodF C.P f ∧ ∀ m w args', Rep C.P m h w → I m h w → VL m args args' →
    Calls C.P f args'.toArray w fun e w' => ∃ v' m', e = .returned v' ∧ Rep C.P m' h' w' ∧ Step m h w m' h' w' ∧ VRel m' v v'

theorem args_rel {m : Mp} {args args' : List Value} (h : VL m args args') (k : Nat) : FrRel m (args'.toArray ++ Array.replicate k undef).size (Tr.ofList args 0 .e) (args'.toArray ++ Array.replicate k undef) := by
  refine ⟨rfl, fun t v e => ?_⟩
  rw [Tr.get_ofList] at e
  simp only [Nat.zero_le, if_true, Nat.sub_zero, Tr.get_e] at e
  split at e
  · rename_i u hu
    simp at e; subst e
    obtain ⟨v', h1, h2⟩ := h.getElem? t hu
    refine ⟨v', ?_, h2⟩
    have := (List.getElem?_eq_some_iff.1 h1).1
    rw [Array.getElem?_append_left (by simpa using this)]
    simpa using h1
  · cases e

theorem evCall_ok {C : Ctx} {I : Inv} (hI : StepClosed I) {reg : Array Oper → Bool → Bool} (hC : CtxOK C I reg) (hdraws : ∀ call, CallOK C.P I call → DrawsOK C.P I (evDraw C.P call) reg) : ∀ n, CallOK C.P I (evCall C n)
  | 0 => by intro g args h v h' e; simp [evCall] at e
  | n + 1 => by
    intro g args h v h' e
    have ih := evCall_ok hI hC hdraws n
    simp only [evCall] at e
    split at e
    · rename_i s hs
      exact hC.sums g s hs args h v h' e
    · cases hm : C.mask.testBit g with
      | false => rw [hm] at e; simp at e
      | true =>
        rw [hm] at e
        obtain ⟨fn, c, h1, h2, h3, h4⟩ := hC.mask g hm
        simp only [Bool.not_true, cond_false, h1, h3] at e
        refine ⟨⟨fn, h1, h2, by rw [h3]; rfl⟩, fun m w args' r hi hv => ?_⟩
        have key : ∀ ex fr1 h1', evCode C.P (evCall C n) (evDraw C.P (evCall C n)) n c (Tr.ofList args 0 .e) h = some (ex, fr1, h1') → (ex = .norm ∨ ex = .ret) → (evResults C.P fr1 h1' fn.results.toList).map (fun vs => (tupled vs, h1')) = some (v, h') →
            Calls C.P g args'.toArray w fun e w' => ∃ v' m', e = .returned v' ∧ Rep C.P m' h' w' ∧ Step m h w m' h' w' ∧ VRel m' v v' := by
          intro ex fr1 h1' hc hex he
          simp only [Option.map_eq_some_iff, Prod.mk.injEq] at he
          obtain ⟨vs, hvs, rfl, rfl⟩ := he
          refine calls_of_wp h1 h3 ?_
          have hf := args_rel hv (fn.ntmps - args'.toArray.size)
          refine evCode_wp hI ih (hdraws _ ih) (by simp; omega) c _ _ ex fr1 h1' hc h4 m { tmps := args'.toArray ++ Array.replicate (fn.ntmps - args'.toArray.size) undef, defers := [] } w hf r hi _ fun a1 m1 w1 f1 d1 r1 s1 => ?_
          obtain ⟨v', k1, k2⟩ := results_sound r1 f1 hvs
          have : bodyPost C.P fn (fun e w' => ∃ v' m', e = .returned v' ∧ Rep C.P m' h1' w' ∧ Step m h w m' h1' w' ∧ VRel m' (tupled vs) v') .ret a1 w1 := ⟨d1, v', k1, v', m1, rfl, r1, s1, k2⟩
          rcases hex with rfl | rfl <;> exact this
        split at e
        · rename_i fr1 h1' hc; exact key _ _ _ hc (.inl rfl) e
        · rename_i fr1 h1' hc; exact key _ _ _ hc (.inr rfl) e
        · cases e

end Go.Ev
