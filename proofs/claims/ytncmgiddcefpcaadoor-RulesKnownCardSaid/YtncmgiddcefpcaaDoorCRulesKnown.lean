/- RulesKnown: true, at every call (it has no arguments); the input reads as it did. No condition. -/
import Derived.Test.YtncmgiddcefpcaaDoorCtx
import Derived.Test.YtncmgiddcefpcaaDoorFacts
import Derived.Test.YtncmgiddcefpcaaDoorTie
import Derived.Test.YtncmgiddcefpcaaDoorCards
import Derived.Test.YtncmgiddcefpcaaDoorChecked
import Derived.ProofKit
import Derived.Lay
import Derived.LaidOnce
import Derived.SevenTiedAt
namespace Go.Proofs.YtncmgiddcefpcaaDoor
open Go Go.Ev Go.RowKit Go.ChangeShapes Go.WideShapes Go.ChangeAt
set_option maxRecDepth 100000

theorem rulesKnown_value : (evCall ctx 200 12 [] h0).map (·.1) = some (.bool true) := by kernel_rfl

theorem rulesKnown_law (W : World) (h : W.ShapedOpen Tryd.prog) : Calls Tryd.prog 12 #[] W fun e w' => e = .returned (.bool true) ∧ Below W.heap.size W w' :=
  closed_bool (C := ctx) (ctx_from h) ctx_mix rulesKnown_value

theorem rulesKnown_own : ownKnob Tryd.prog.godebug = none := by kernel_rfl
theorem rulesKnown_lifted (os : Os) (started : os.Started) (H : Type) (enc : TypeId × Value → H) :
    ReturnsInHanded {} Tryd.checked os 12 .any (fun w args => (Rows.rulesKnownSpec.pre enc Tryd.prog Tryd.f12 [] false w args ∧ laidMetH Tryd.prog Rows.rulesKnownRow.laid w) ∧ sizedMet enc Tryd.prog Tryd.f12 (OpenSpec.ofChange Rows.rulesKnownSpec) false w args)
      (Rows.rulesKnownSpec.post enc Tryd.prog Tryd.f12 false true false false) := by
  refine returnsInHanded_of_change_and_shaped (C := Tryd.checked) (X := fun w _ => laidMetH Tryd.prog Rows.rulesKnownRow.laid w) (fun _ _ _ hh h => h.of_heap hh) rulesKnown_own started (by kernel_rfl) Tryd.func12
    (ChangeSpec.witness_shaped (enc := enc) (C := Tryd.checked) (os := os) (X := fun w _ => laidMetH Tryd.prog Rows.rulesKnownRow.laid w) false (World.laidAll Tryd.prog os Rows.rulesKnownRow.laid) #[] 8 (World.laidAll_os _ _ _)
      (World.shaped_of_ZipB (by kernel_rfl) (by kernel_rfl)) (by kernel_rfl) (by kernel_rfl) (by kernel_rfl)
      (by rw [MakeChecks.laidMetH_plain _ _ _ (by kernel_rfl)]; exact laidMet_laidAll _ (by kernel_rfl) (by kernel_rfl))) ?_
  intro W base args ds gs before hval0 hW _ _ _ hsh
  have hW' := hW
  obtain ⟨p, q, hA0, hV, rfl, _, _⟩ := hW
  have hA : DataW.TrodAll enc Tryd.prog W 0 (fun _ => true) true Tryd.f12.params.toList args.toList ds p := hA0
  rw [Tryd.params12] at hA
  obtain ⟨rfl, rfl, rfl⟩ := trodAll_none hA
  obtain ⟨rfl, rfl⟩ := trodVars_none hV
  refine (rulesKnown_law W hsh).mono fun e W' ⟨he, hb⟩ => ?_
  subst he
  exact ⟨_, rfl, _, _, _, [], [], [], hW', trodAll_mk1 (shut_bool Tryd.underlying4 _), hA, rfl, hb.frame _, fun h => by cases h⟩

theorem rulesKnown_p0 : (Rows.rulesKnownRow.wf (OpenSpec.ofChange Rows.rulesKnownSpec)) = true := by kernel_rfl
theorem rulesKnown_p3 : (Tryd.f12.params.all (Tryd.pinned.checked.prog.readableRec ·)) = true := by kernel_rfl
theorem rulesKnown_p4 : (namedTie Tryd.pinned.checked.prog Rows.rulesKnownRow.named Rows.rulesKnownSpec.vars) = true := by kernel_rfl
theorem rulesKnown_p5 : ((Rows.rulesKnownRow.stops == [])) = true := by kernel_rfl
theorem rulesKnown_p7 : ((Rows.rulesKnownRow.knobs == [])) = true := by kernel_rfl
theorem rulesKnown_p9 : ((Rows.rulesKnownRow.inPlace == Tryd.pinned.checked.prog.inPlace 12)) = true := by kernel_rfl
theorem rulesKnown_p10 : ((Rows.rulesKnownRow.unfollowed == Tryd.pinned.checked.prog.unfollowed 12)) = true := by kernel_rfl
theorem rulesKnown_p11 : ((Rows.rulesKnownRow.recurses == Tryd.pinned.checked.prog.recurses 12)) = true := by kernel_rfl
theorem rulesKnown_p12 : ((Rows.rulesKnownRow.named == Tryd.pinned.checked.prog.varsNamed 12)) = true := by kernel_rfl
theorem rulesKnown_p13 : ((Rows.rulesKnownRow.maps == (Tryd.f12.params.toList ++ Rows.rulesKnownSpec.plain.varTypes Tryd.pinned.checked.prog).any (Tryd.pinned.checked.prog.mapsRec ·))) = true := by kernel_rfl
theorem rulesKnown_p14 : ((Rows.rulesKnownRow.ifaces == (Tryd.f12.params.toList ++ Rows.rulesKnownSpec.plain.varTypes Tryd.pinned.checked.prog).any (Tryd.pinned.checked.prog.ifacesRec ·))) = true := by kernel_rfl
theorem rulesKnown_p15 : ((Rows.rulesKnownRow.mapsOut == Tryd.pinned.checked.prog.mapsAmong Tryd.f12.resultTypes.toList)) = true := by kernel_rfl
theorem rulesKnown_p16 : ((Rows.rulesKnownRow.loops == (Tryd.f12.params.toList ++ Rows.rulesKnownSpec.plain.varTypes Tryd.pinned.checked.prog).any (Tryd.pinned.checked.prog.loopsFrom ·))) = true := by kernel_rfl
theorem rulesKnown_p17 : ((Rows.rulesKnownRow.wideKeys == (Tryd.f12.params.toList ++ Rows.rulesKnownSpec.plain.varTypes Tryd.pinned.checked.prog ++ Tryd.f12.resultTypes.toList).any (Tryd.pinned.checked.prog.wideKeysFrom ·))) = true := by kernel_rfl
theorem rulesKnown_p18 : (Rows.rulesKnownSpec.vars.all (Tryd.pinned.checked.prog.varReadable ·)) = true := by kernel_rfl
theorem rulesKnown_p19 : (Tryd.f12.resultTypes.all (fun t => Tryd.pinned.checked.prog.readableRec t && decide (t < Tryd.pinned.checked.prog.types.size))) = true := by kernel_rfl
theorem rulesKnown_p20 : ((Rows.rulesKnownRow.ifacesOut == Tryd.f12.resultTypes.toList.any (Tryd.pinned.checked.prog.ifacesRec ·))) = true := by kernel_rfl
theorem rulesKnown_p21 : ((Rows.rulesKnownRow.loopsOut == Tryd.f12.resultTypes.toList.any (Tryd.pinned.checked.prog.loopsFrom ·))) = true := by kernel_rfl
theorem rulesKnown_p23 : (Rows.rulesKnownRow.shortTexts.isNone) = true := by kernel_rfl
theorem rulesKnown_p28 : ((Rows.rulesKnownRow.kinds == (if Rows.rulesKnownRow.domain.isEmpty then [] else Tryd.f12.params.toList.map fun t => match Tryd.pinned.checked.prog.underlying t with | some (.int k) => some k | _ => none))) = true := by kernel_rfl
theorem rulesKnown_p29 : ((Rows.rulesKnownRow.pinned == Rows.rulesKnownRow.pinnedBy)) = true := by kernel_rfl
theorem rulesKnown_p30 : ((Rows.rulesKnownRow.veiled == (Tryd.f12.params.toList ++ Rows.rulesKnownSpec.plain.varTypes Tryd.pinned.checked.prog ++ Tryd.f12.resultTypes.toList).any (Tryd.pinned.checked.prog.veiledRec ·))) = true := by kernel_rfl
theorem rulesKnown_p31 : (Rows.rulesKnownRow.veiledFits Tryd.pinned.checked.prog Tryd.f12.params.toList (Tryd.f12.params.toList ++ Rows.rulesKnownSpec.plain.varTypes Tryd.pinned.checked.prog ++ Tryd.f12.resultTypes.toList)) = true := by kernel_rfl

theorem rulesKnown_joined : joinedFacts Tryd.pinned.checked.prog 12 Tryd.f12 Rows.rulesKnownSpec Rows.rulesKnownRow = true :=
  joinedFacts_mk rulesKnown_p0 fact1 fact2 rulesKnown_p3 rulesKnown_p4 rulesKnown_p5 fact6 rulesKnown_p7 fact8 rulesKnown_p9 rulesKnown_p10 rulesKnown_p11 rulesKnown_p12 rulesKnown_p13 rulesKnown_p14 rulesKnown_p15 rulesKnown_p16 rulesKnown_p17 rulesKnown_p18 rulesKnown_p19 rulesKnown_p20 rulesKnown_p21 fact22 rulesKnown_p23 fact24 fact25 fact26 fact27 rulesKnown_p28 rulesKnown_p29 rulesKnown_p30 rulesKnown_p31

theorem rulesKnown_named : Tryd.pinned.checked.prog.funcNamed Rows.rulesKnownRow.func = some 12 := by kernel_rfl
theorem rulesKnown_instance : Tryd.f12.isInstance Tryd.pinned.checked.prog Rows.rulesKnownRow.origin Rows.rulesKnownRow.targs := of_decide_eq_true (by kernel_rfl)
theorem rulesKnown_wrapper : Tryd.f12.isWrapper Tryd.pinned.checked.prog Rows.rulesKnownRow.wrapper Rows.rulesKnownRow.mainSum := by unfold Func.isWrapper; first | (rw [if_pos (by decide +kernel)]; kernel_rfl) | (rw [if_neg (by decide +kernel)]; exact ⟨rfl, rfl⟩)
theorem rulesKnown_wf : Rows.rulesKnownRow.wfByText (OpenSpec.ofChange Rows.rulesKnownSpec) = true := by kernel_rfl
theorem rulesKnown_goes : false = Rows.rulesKnownRow.goesBy Tryd.pinned.checked.prog := by kernel_rfl

theorem rulesKnown_holds : Rows.rulesKnownRow.holds Tryd.pinned (OpenSpec.ofChange Rows.rulesKnownSpec) :=
  OpenClaim.holds_of_wide 12 Tryd.f12 rfl rfl rfl rfl rfl rfl rfl ⟨rfl, rfl, rfl, rfl, rfl⟩ rfl rfl rfl rfl rfl rulesKnown_named Tryd.func12 rulesKnown_joined
    rulesKnown_instance rulesKnown_wrapper
    (fun os started H enc _ => rulesKnown_lifted os started H enc)

theorem rulesKnown_card : Rows.RulesKnownCardSaid :=
  Claim7.holds_tied_plain_at .later [] [.data, .pinned] true (true, "d816627b2ae0baf26f24d7b8848545fff235d33b422c6ccc3e0906bae9e4138d") false rulesKnown_holds (fun _ h => by cases h) rulesKnown_wf (fun _ h => by cases h) rulesKnown_row_tie rfl ⟨rfl, rfl⟩ factMain rfl
    (fun f fn hf hfn => by
      obtain rfl : f = 12 := Option.some.inj (rulesKnown_named.symm.trans hf) |>.symm
      obtain rfl : fn = Tryd.f12 := (Option.some.inj (Tryd.func12.symm.trans hfn)).symm
      exact ⟨factLooks, fun j t ht => by
        rw [Tryd.params12] at ht
        simp at ht⟩)
    rulesKnown_goes
#print axioms rulesKnown_card
end Go.Proofs.YtncmgiddcefpcaaDoor
