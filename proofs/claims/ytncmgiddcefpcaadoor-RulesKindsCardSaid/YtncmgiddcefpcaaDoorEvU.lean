/- Ev: closed calls: what a call without arguments comes to, from the empty abstract heap; the row's wrapper with the world's shape and a listed variable's text. -/
import Derived.Test.YtncmgiddcefpcaaDoorEvS
import Derived.HandedShaped
import Derived.Shelf.Vars
import Derived.JoinedOf
namespace Go.Ev
open Go Go.RowKit
set_option linter.unusedSimpArgs false
set_option linter.unusedVariables false

/-- The empty abstract heap, and the empty renaming. -/
def h0 : Hp := { t := .e, next := 0 }
def m0 : Mp := fun _ => none

theorem h0_get (b : Nat) : h0.get b = none := by
  unfold h0 Hp.get; simp [Tr.get_e]

theorem rep0 (P : Program) (w : World) : Rep P m0 h0 w := by
  refine Rep.mk (fun b L e => by cases e) (fun b _ => ⟨h0_get b, rfl⟩) (fun b cs e st hb _ => ?_) (fun b cs e base olds hb => ?_) (fun b es ck hb => ?_) (fun b b' L L' _ _ e => by cases e)
  all_goals rw [h0_get] at hb; cases hb

/-- All that comes of one first world. -/
def From (ma : Mp) (ha : Hp) (w0 : World) : Inv := fun m h w => Step ma ha w0 m h w
theorem From.closed (ma : Mp) (ha : Hp) (w0 : World) : StepClosed (From ma ha w0) := fun _ _ _ _ _ _ a b => a.trans b

theorem Step.below0 {w w' : World} {m : Mp} {h : Hp} (s : Step m0 h0 w m h w') : Below w.heap.size w w' :=
  ⟨s.os, s.tape, s.output, s.size, fun k hk => s.same k hk fun b L _ e => by cases e⟩

theorem From.cell0 {w0 w : World} {m : Mp} {h : Hp} (i : From m0 h0 w0 m h w) {a : Addr} {v : Value} (e : w0.cell? a = some v) : w.cell? a = some v := by
  have hlt : a.block < w0.heap.size := by
    unfold World.cell? at e
    rcases h : w0.heap[a.block]? with _ | o
    · rw [h] at e; simp at e
    · exact (Array.getElem?_eq_some_iff.1 h).1
  have := (Step.below0 i).block a.block hlt
  unfold World.cell? at e ⊢
  rw [this]; exact e

/-- A CLOSED CALL: what the abstract evaluation gives is what the call returns; nothing of the first world is changed. -/
theorem closed_bool {C : Ctx} {w0 : World} (hC : CtxOK C (From m0 h0 w0) (regOk C.P)) (hmix : C.P.follows .mixedOrders = true) {n f : Nat} {b : Bool}
    (e : (evCall C n f [] h0).map (·.1) = some (.bool b)) : Calls C.P f #[] w0 fun e w' => e = .returned (.bool b) ∧ Below w0.heap.size w0 w' := by
  obtain ⟨⟨v, h'⟩, e1, e2⟩ := Option.map_eq_some_iff.1 e
  have e2 : v = .bool b := e2
  subst e2
  obtain ⟨_, k⟩ := evCall_sound (From.closed m0 h0 w0) hC hmix n f [] h0 _ _ e1
  refine (k m0 w0 [] (rep0 _ _) (Step.refl _ _ _) .nil).mono fun e w' he => ?_
  obtain ⟨v', m', rfl, _, hs, hv⟩ := he
  cases hv
  exact ⟨rfl, hs.below0⟩

/-- One function of the mask. -/
def okF (P : Program) (f : Nat) : Bool := match P.funcs[f]? with
  | some fn => match fn.body with
    | some c => codeOk fn.ntmps (regOk P) c && !(fn.name == "runtime.NumGoroutine")
    | none => false
  | none => false

theorem okF_spec {P : Program} {f : Nat} (h : okF P f = true) : ∃ fn c, P.funcs[f]? = some fn ∧ (fn.name == "runtime.NumGoroutine") = false ∧ fn.body = some c ∧ codeOk fn.ntmps (regOk P) c = true := by
  unfold okF at h
  split at h
  · rename_i fn hf
    split at h
    · rename_i c hc
      simp only [Bool.and_eq_true, Bool.not_eq_true'] at h
      exact ⟨fn, c, hf, h.2, hc, h.1⟩
    · cases h
  · cases h

theorem mask_ok {P : Program} {mask k : Nat} (hk : mask < 2 ^ k) (h : ((List.range k).all fun f => !(mask.testBit f) || okF P f) = true) (f : Nat) (hf : mask.testBit f = true) :
    ∃ fn c, P.funcs[f]? = some fn ∧ (fn.name == "runtime.NumGoroutine") = false ∧ fn.body = some c ∧ codeOk fn.ntmps (regOk P) c = true := by
  have hlt : f < k := by
    refine Decidable.byContradiction fun hn => ?_
    rw [Nat.testBit_lt_two_pow (Nat.lt_of_lt_of_le hk (Nat.pow_le_pow_right (by decide) (Nat.le_of_not_lt hn)))] at hf
    cases hf
  have := List.all_eq_true.1 h f (List.mem_range.2 hlt)
  rw [hf] at this
  exact okF_spec (by simpa using this)

end Go.Ev

namespace Go
variable {H : Type} {enc : TypeId × Value → H}

/-- The plain wrap with the world's shape and a further hypothesis on the first world. -/
theorem returnsInHanded_of_change_and_shaped {a : Assume} {C : Checked} {os : Os} {f : FuncId} {fn : Func} {s : ChangeSpec} {conds : List PathCond} {apart fresh handsOn again : Bool} {X : World → Array Value → Prop}
    (hX : ∀ (w w' : World) (args : Array Value), w.heap = w'.heap → X w args → X w' args)
    (own : ownKnob C.prog.godebug = none) (started : os.Started) (noInit : C.prog.inits.idxOf? f = none) (hfn : C.prog.funcs[f]? = some fn)
    (witness : ∃ (w : World) (tape : Tape) (i : Input), w.os = os ∧ (w.forCall tape i).Shaped C.prog ∧ i.vars = [] ∧ Input.okWide C.prog (w.forCall tape i) .any w.heap.size f i ∧
      ((s.pre enc C.prog fn conds apart (w.forCall tape i).memory i.args ∧ X (w.forCall tape i).memory i.args) ∧ sizedMet enc C.prog fn (OpenSpec.ofChange s) apart (w.forCall tape i).memory i.args) ∧ a.holds C.prog (lone (Frame.enter C.prog f i.args .normal) [] (w.forCall tape i)))
    (contract : ∀ (W : World) (base : Nat) (args : Array Value) (ds gs : List (DataW H)) (before : List MemPlace),
      (∀ (j : Nat) t v, fn.params[j]? = some t → args[j]? = some v → Value.okWide C.prog W .any base t v) →
      DataW.Whole enc C.prog fn.params.toList s.vars apart W args.toList ds gs before →
      conds.all (PathCond.test C.prog ⟨fn.params.toList, ds, s.plain.varTypes C.prog, gs⟩) = true →
      (DataW.weightsEach C.prog (fn.params.toList ++ s.plain.varTypes C.prog) (ds ++ gs)).all (· ≤ reachBytes) = true → X W args → W.ShapedOpen C.prog →
      Calls C.prog f args W fun e W' => ∃ v, e = .returned v ∧ s.post enc C.prog fn apart fresh handsOn again W args v W') :
    ReturnsInHanded a C os f .any (fun w args => (s.pre enc C.prog fn conds apart w args ∧ X w args) ∧ sizedMet enc C.prog fn (OpenSpec.ofChange s) apart w args) (s.post enc C.prog fn apart fresh handsOn again) := by
  refine returnsInHanded_of_calls own started noInit witness ?_
  intro w tape i _ hsh _ hok hpre _
  obtain ⟨_, _, _, fn', hfn', _, _, _, _, hval⟩ := hok
  have e : fn' = fn := Option.some.inj (hfn'.symm.trans hfn)
  subst e
  obtain ⟨⟨⟨ds, gs, before, hw, hc⟩, hx⟩, hz⟩ := hpre
  have hw' := DataW.Whole.of_heap (w' := w.forCall tape i) (by rfl) hw
  refine (contract (w.forCall tape i) w.heap.size i.args ds gs before hval hw' hc (hz.weights hw) (hX _ _ _ (by rfl) hx) hsh).mono fun e W' ⟨v, he, hp⟩ => ?_
  subst he
  exact ChangeSpec.post_blind hp

theorem band {a b : Bool} (h : a = true) (k : b = true) : (a && b) = true := by rw [h, k]; rfl

/-- The closed facts of a row, from its parts. -/
theorem joinedFacts_mk {P : Program} {f : FuncId} {fn : Func} {s : ChangeSpec} {c : OpenClaim}
    (h0 : (c.wf (OpenSpec.ofChange s)) = true)
    (h1 : (laidOutB P) = true)
    (h2 : (mapsRowed P) = true)
    (h3 : (fn.params.all (P.readableRec ·)) = true)
    (h4 : (namedTie P c.named s.vars) = true)
    (h5 : (c.stops == []) = true)
    (h6 : (P.stops == []) = true)
    (h7 : (c.knobs == []) = true)
    (h8 : (P.stopKnobs == []) = true)
    (h9 : (c.inPlace == P.inPlace f) = true)
    (h10 : (c.unfollowed == P.unfollowed f) = true)
    (h11 : (c.recurses == P.recurses f) = true)
    (h12 : (c.named == P.varsNamed f) = true)
    (h13 : (c.maps == (fn.params.toList ++ s.plain.varTypes P).any (P.mapsRec ·)) = true)
    (h14 : (c.ifaces == (fn.params.toList ++ s.plain.varTypes P).any (P.ifacesRec ·)) = true)
    (h15 : (c.mapsOut == P.mapsAmong fn.resultTypes.toList) = true)
    (h16 : (c.loops == (fn.params.toList ++ s.plain.varTypes P).any (P.loopsFrom ·)) = true)
    (h17 : (c.wideKeys == (fn.params.toList ++ s.plain.varTypes P ++ fn.resultTypes.toList).any (P.wideKeysFrom ·)) = true)
    (h18 : (s.vars.all (P.varReadable ·)) = true)
    (h19 : (fn.resultTypes.all (fun t => P.readableRec t && decide (t < P.types.size))) = true)
    (h20 : (c.ifacesOut == fn.resultTypes.toList.any (P.ifacesRec ·)) = true)
    (h21 : (c.loopsOut == fn.resultTypes.toList.any (P.loopsFrom ·)) = true)
    (h22 : (c.plainKeys == P.plainKeys) = true)
    (h23 : (c.shortTexts.isNone) = true)
    (h24 : (P.stopsHeard) = true)
    (h25 : (P.mayEnter) = true)
    (h26 : (c.lifted == P.liftsFinal) = true)
    (h27 : (P.make == some c.make) = true)
    (h28 : (c.kinds == (if c.domain.isEmpty then [] else fn.params.toList.map fun t => match P.underlying t with | some (.int k) => some k | _ => none)) = true)
    (h29 : (c.pinned == c.pinnedBy) = true)
    (h30 : (c.veiled == (fn.params.toList ++ s.plain.varTypes P ++ fn.resultTypes.toList).any (P.veiledRec ·)) = true)
    (h31 : (c.veiledFits P fn.params.toList (fn.params.toList ++ s.plain.varTypes P ++ fn.resultTypes.toList)) = true)
    : joinedFacts P f fn s c = true := by
  unfold joinedFacts
  exact band (band (band (band (band (band (band (band (band (band (band (band (band (band (band (band (band (band (band (band (band (band (band (band (band (band (band (band (band (band (band h0 h1) h2) h3) h4) h5) h6) h7) h8) h9) h10) h11) h12) h13) h14) h15) h16) h17) h18) h19) h20) h21) h22) h23) h24) h25) h26) h27) h28) h29) h30) h31
end Go
