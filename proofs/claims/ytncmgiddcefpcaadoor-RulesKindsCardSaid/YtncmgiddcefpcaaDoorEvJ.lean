/- One operation: from the abstract answer to the weakest precondition of the true one. -/
import Derived.Test.YtncmgiddcefpcaaDoorEvI
namespace Go.Ev
open Go
set_option linter.unusedSimpArgs false
set_option linter.unusedVariables false

theorem evCopy_sound {P : Program} {m : Mp} {h h' : Hp} {w : World} (r : Rep P m h w) {t : TypeId} {d d' s s' v : Value} (e : evCopy P t d s h = some (v, h')) (hd : VRel m d d') (hs : VRel m s s')
    (ts : Array TypeId) (ht : ts[0]? = some t) (ty : TypeId) :
    ∃ v' w', (Builtin.copy_ ts ty #[d', s']).run P w = .ok v' w' ∧ Rep P m h' w' ∧ Step m h w m h' w' ∧ VRel m v v' := by
  unfold evCopy at e
  split at e
  · rename_i base dl cap
    simp only [Option.bind_eq_some_iff] at e
    obtain ⟨el, hel, n, hn, sl, hsl, cs, hcs, e⟩ := e
    have hlen := lenOf_sound (P := P) hsl hs
    obtain ⟨cs', hf1, hf2, hf3⟩ := evCells_sound r hcs hs (fun k' hk' => by rw [hsl] at hk'; cases hk'; exact Nat.min_le_left _ _)
    split at e
    · simp only [Option.some.injEq, Prod.mk.injEq] at e
      obtain ⟨rfl, rfl⟩ := e
      cases hd with
      | nils =>
        refine ⟨_, w, ?_, r, Step.refl _ _ _, .int _ _⟩
        have hf1' : (Builtin.firstCells n 0 s').run P w = .ok cs' w := by simpa using hf1
        simp [hf1', Builtin.copy_, ht, run_underlying (tSliceElem_spec hel), hlen, run_sizeOf hn, goInt]
    · rename_i b o
      cases hd with
      | slc hL hl hc ha =>
        rename_i cap' L a
        cases hem : cs.isEmpty with
        | true =>
          rw [hem] at e; simp only [cond_true, Option.some.injEq, Prod.mk.injEq] at e
          obtain ⟨rfl, rfl⟩ := e
          have hcs0 : cs = [] := by simpa using hem
          subst hcs0
          have hc0 : cs' = #[] := by
            have := hf2.length
            simp at this
            exact Array.size_eq_zero_iff.1 this.symm
          subst hc0
          refine ⟨_, w, ?_, r, Step.refl _ _ _, .int _ _⟩
          simp [Builtin.copy_, ht, run_underlying (tSliceElem_spec hel), hlen, run_sizeOf hn, hf1, goInt, storeCells]
        | false =>
          rw [hem] at e; simp only [cond_false, Option.map_eq_some_iff, Prod.mk.injEq] at e
          obtain ⟨h1, hw1, rfl, rfl⟩ := e
          have hne : cap' ≠ 0 := by
            intro h0
            have h2 : dl = 0 := by omega
            subst h2
            have : cs = [] := by
              unfold evCells at hcs
              split at hcs
              · simp at hcs; exact hcs
              · simp at hcs; exact hcs
              · simp at hcs; exact hcs
              · cases hcs
            subst this
            simp at hem
          have ha' := ha.resolve_right hne
          subst ha'
          obtain ⟨w', g1, g2, g3⟩ := writeAt_sound r hw1 hf2 hL
          refine ⟨_, w', ?_, g2, g3, .int _ _⟩
          simp [Builtin.copy_, ht, run_underlying (tSliceElem_spec hel), hlen, run_sizeOf hn, hf1, goInt, g1]
    · cases e
  · cases e

/-- A function that is entered. -/
def GoodF (P : Program) (g : FuncId) : Prop := ∃ fn, P.funcs[g]? = some fn ∧ (fn.name == "runtime.NumGoroutine") = false ∧ fn.body.isNone = false

/-- What holds of a state, and of all that come of it. -/
abbrev Inv := Mp → Hp → World → Prop
def StepClosed (I : Inv) : Prop := ∀ m h w m' h' w', I m h w → Step m h w m' h' w' → I m' h' w'

/-- What a call comes to. -/
def CallOK (P : Program) (I : Inv) (call : CallF) : Prop := ∀ g args h v h', call g args h = some (v, h') → GoodF P g ∧
  ∀ m w args', Rep P m h w → I m h w → VL m args args' → Calls P g args'.toArray w fun e w' => ∃ v' m', e = .returned v' ∧ Rep P m' h' w' ∧ Step m h w m' h' w' ∧ VRel m' v v'

theorem run_callFunc {P : Program} {g : FuncId} (hg : GoodF P g) (args : Array Value) (w : World) : (callFunc g args).run P w = .ok (.enter g args) w := by
  obtain ⟨fn, h1, h2, h3⟩ := hg
  simp only [callFunc, Sem.run_bind, run_program, Result.andThen_ok, h1, h2, h3]
  simp

theorem undef_rel (m : Mp) : VRel m undef undef := .tuple .nil

theorem wp_value {P : Program} {o : Oper} {a : Act} {w w' : World} {next : Act → World → Prop} {Q : Exit → Act → World → Prop} {v : Value} (h : (execOp a.eval o).run P w = .ok (.value v) w') (hn : next (a.put o.dst v) w') : o.wp P a w next Q := by
  unfold Oper.wp; rw [h]; exact hn
theorem wp_skip' {P : Program} {o : Oper} {a : Act} {w w' : World} {next : Act → World → Prop} {Q : Exit → Act → World → Prop} (h : (execOp a.eval o).run P w = .ok .skip w') (hn : next (a.put o.dst undef) w') : o.wp P a w next Q := by
  unfold Oper.wp; rw [h]; exact hn

theorem evEff_wp {P : Program} {I : Inv} {call : CallF} (hcall : CallOK P I call) {m : Mp} {nt : Nat} {fr : Fr} {a : Act} {h h' : Hp} {w : World} (r : Rep P m h w) (hi : I m h w) (hf : FrRel m nt fr a.tmps) {o : Oper} {v : Value}
    (e : evEff P call fr o h = some (v, h')) {next : Act → World → Prop} {Q : Exit → Act → World → Prop}
    (hn : ∀ v' m' w', Rep P m' h' w' → Step m h w m' h' w' → VRel m' v v' → next (a.put o.dst v') w') : o.wp P a w next Q := by
  unfold evEff at e
  split at e
  · rename_i t x y ho
    simp only [Option.bind_eq_some_iff, Option.map_eq_some_iff, Prod.mk.injEq] at e
    obtain ⟨x1, hx, y1, hy, h1, he, rfl, rfl⟩ := e
    obtain ⟨w', g1, g2, g3⟩ := evStore_sound r he (ev1_sound hf hx) (ev1_sound hf hy)
    exact wp_skip' (by simp [execOp, ho, g1]) (hn _ _ _ g2 g3 (undef_rel _))
  · rename_i t x y z ho
    simp only [Option.bind_eq_some_iff, Option.map_eq_some_iff, Prod.mk.injEq] at e
    obtain ⟨x1, hx, y1, hy, z1, hz, h1, he, rfl, rfl⟩ := e
    obtain ⟨w', g1, g2, g3⟩ := evMapUpdate_sound r he (ev1_sound hf hx) (ev1_sound hf hy) (ev1_sound hf hz)
    exact wp_skip' (by simp [execOp, ho, g1]) (hn _ _ _ g2 g3 (undef_rel _))
  · rename_i t x y z ho
    simp only [Option.bind_eq_some_iff, Option.map_eq_some_iff, Prod.mk.injEq] at e
    obtain ⟨x1, hx, y1, hy, z1, hz, h1, he, rfl, rfl⟩ := e
    obtain ⟨w', g1, g2, g3⟩ := evMapUpdate_sound r he (ev1_sound hf hx) (ev1_sound hf hy) (ev1_sound hf hz)
    exact wp_skip' (by simp [execOp, ho, g1]) (hn _ _ _ g2 g3 (undef_rel _))
  · rename_i c ho
    unfold evEffCall at e
    split at e
    · rename_i hc
      split at e
      · rename_i x y t ts hargs htys
        simp only [Option.bind_eq_some_iff, Option.map_eq_some_iff, Prod.mk.injEq] at e
        obtain ⟨x1, hx, y1, hy, h1, he, rfl, rfl⟩ := e
        have e1 : c.args.map a.eval = #[a.eval x, a.eval y] := toArray_map (l := [a.eval x, a.eval y]) (by simp [hargs])
        have e2 : c.argTypes[0]? = some t := by rw [← Array.getElem?_toList, htys]; rfl
        obtain ⟨w', g1, g2, g3⟩ := evDelete_sound r he (ev1_sound hf hx) (ev1_sound hf hy) c.argTypes e2 o.type
        refine wp_value (v := .tuple #[]) ?_ (hn _ _ _ g2 g3 (undef_rel _))
        rw [execOp_builtin _ _ _ _ ho hc, e1]
        simp [builtin, g1]
      · cases e
    · rename_i hc
      split at e
      · rename_i x y t u ts hargs htys
        simp only [Option.bind_eq_some_iff] at e
        obtain ⟨x1, hx, y1, hy, e⟩ := e
        have e1 : c.args.map a.eval = #[a.eval x, a.eval y] := toArray_map (l := [a.eval x, a.eval y]) (by simp [hargs])
        have e2 : c.argTypes[0]? = some t := by rw [← Array.getElem?_toList, htys]; rfl
        have e3 : c.argTypes[1]? = some u := by rw [← Array.getElem?_toList, htys]; rfl
        have key : ∀ ud, P.underlying u = some ud → ((∃ e, ud = .slice e) ∨ ud = .string) → evAppend P t x1 y1 h = some (v, h') → o.wp P a w next Q := by
          intro ud hud hni he
          obtain ⟨v', m', w', g1, g2, g3, g4⟩ := evAppend_sound r he (ev1_sound hf hx) (ev1_sound hf hy) c.argTypes e2 e3 hud hni o.type
          refine wp_value (v := v') ?_ (hn _ _ _ g2 g3 g4)
          rw [execOp_builtin _ _ _ _ ho hc, e1]
          simp [builtin, g1]
        split at e
        · rename_i el hu; exact key _ hu (.inl ⟨_, rfl⟩) e
        · rename_i hu; exact key _ hu (.inr rfl) e
        · cases e
      · cases e
    · rename_i hc
      split at e
      · rename_i x y t ts hargs htys
        simp only [Option.bind_eq_some_iff] at e
        obtain ⟨x1, hx, y1, hy, he⟩ := e
        have e1 : c.args.map a.eval = #[a.eval x, a.eval y] := toArray_map (l := [a.eval x, a.eval y]) (by simp [hargs])
        have e2 : c.argTypes[0]? = some t := by rw [← Array.getElem?_toList, htys]; rfl
        obtain ⟨v', w', g1, g2, g3, g4⟩ := evCopy_sound r he (ev1_sound hf hx) (ev1_sound hf hy) c.argTypes e2 o.type
        refine wp_value (v := v') ?_ (hn _ _ _ g2 g3 g4)
        rw [execOp_builtin _ _ _ _ ho hc, e1]
        simp [builtin, g1]
      · cases e
    · rename_i f hc
      simp only [Option.bind_eq_some_iff] at e
      obtain ⟨fv, hfv, e⟩ := e
      have hfr := ev1_sound hf hfv
      split at e
      · rename_i g first captured
        simp only [Option.bind_eq_some_iff] at e
        obtain ⟨vs, hvs, e⟩ := e
        generalize hef : a.eval f = fv' at hfr
        cases hfr with
        | func hff hcc =>
          rename_i first' captured'
          obtain ⟨hgood, hok⟩ := hcall _ _ _ _ _ e
          have hrun : (execOp a.eval o).run P w = .ok (.enter g (first' ++ c.args.map a.eval ++ captured')) w := by
            simp only [execOp, ho, resolve, hc, hef, Deferred.ofValue, Sem.run_bind, Sem.run_pure, Result.andThen_ok, invoke]
            exact run_callFunc hgood _ _
          unfold Oper.wp
          rw [hrun, Oper.upon_enter]
          have hvl : VL m (first.toList ++ vs ++ captured.toList) ((first' ++ c.args.map a.eval ++ captured').toList) := by
            simp only [Array.toList_append, Array.toList_map]
            exact (hff.append (evs_sound hf hvs)).append hcc
          have := hok m w _ r hi hvl
          simp only [Array.toArray_toList] at this
          refine this.mono fun e' w' ⟨v', m', he', g2, g3, g4⟩ => ?_
          subst he'
          exact hn _ _ _ g2 g3 g4
      · cases e
    · cases e
  · cases e

theorem ObRel.hob {P : Program} {m : Mp} {ob : Ob} {ob' : Obj} (h : ObRel m ob ob') : (∃ cs cs' e n base olds, ob = .row cs e (.rw base olds) ∧ ob' = .cells cs' e (0, 0) ∧ VL m cs (cs'.toList.take cs.length) ∧ (tSize P e = some n ∨ (0 : Nat) = 0) ∧ cs'.size = cs.length + 0 * n) ∨ (ob = .map [] 0 ∧ ob' = .map #[] 0) := by
  rcases h with ⟨cs, cs', e, rfl, rfl, hv⟩ | h
  · have := hv.length
    simp only [Array.length_toList] at this
    refine .inl ⟨cs, cs', e, 0, 0, [], rfl, rfl, ?_, .inr rfl, by omega⟩
    rw [List.take_of_length_le (by simp; omega)]
    exact hv
  · exact .inr h

/-- ONE OPERATION. -/
theorem evOp_wp {P : Program} {I : Inv} {call : CallF} (hcall : CallOK P I call) {m : Mp} {nt : Nat} {fr : Fr} {a : Act} {h h' : Hp} {w : World} (r : Rep P m h w) (hi : I m h w) (hf : FrRel m nt fr a.tmps) {o : Oper} {v : Value}
    (e : evOp P call fr o h = some (v, h')) {next : Act → World → Prop} {Q : Exit → Act → World → Prop}
    (hn : ∀ v' m' w', Rep P m' h' w' → Step m h w m' h' w' → VRel m' v v' → next (a.put o.dst v') w') : o.wp P a w next Q := by
  unfold evOp at e
  split at e
  · simp only [Option.map_eq_some_iff, Prod.mk.injEq] at e
    obtain ⟨u, hu, rfl, rfl⟩ := e
    obtain ⟨v', h1, h2⟩ := evPure_sound hf hu
    exact wp_value (h1 w) (hn _ _ _ r (Step.refl _ _ _) h2)
  · simp only [Option.map_eq_some_iff, Prod.mk.injEq] at e
    obtain ⟨u, hu, rfl, rfl⟩ := e
    obtain ⟨v', h1, h2⟩ := evReadOrPure_sound r hf hu
    exact wp_value h1 (hn _ _ _ r (Step.refl _ _ _) h2)
  · simp only [Option.map_eq_some_iff, Prod.mk.injEq] at e
    obtain ⟨⟨ob, mk⟩, hu, rfl, rfl⟩ := e
    obtain ⟨ob', mk', h1, h2, h3⟩ := evNew_sound hf hu
    have hp := Rep.push r (w := w) rfl (ob := ob) (ob' := ob') (x := 0) h2.hob
    have hst := Step.push (w := w) r ob ob' 0
    exact wp_value (h1 w) (hn _ _ _ hp hst (h3 _ _ _ (Mp.upd_self _ _ _)))
  · exact evEff_wp hcall r hi hf e hn

end Go.Ev
