/- StepKnown: true, at every call (it has no arguments); the input reads as it did. No condition. -/
import Derived.Test.YtnlicjbeobkidaaGreatDoorBin4
import Derived.Test.YtnlicjbeobkidaaGreatDoorFacts
import Derived.Test.YtnlicjbeobkidaaGreatDoorTie
import Derived.Test.YtnlicjbeobkidaaGreatDoorCards
import Derived.Test.YtnlicjbeobkidaaGreatDoorChecked
import Derived.ProofKit
import Derived.Lay
import Derived.LaidOnce
import Derived.SevenTiedAt
namespace Go.Proofs.YtnlicjbeobkidaaGreatDoor
open Go Go.Ev Go.RowKit Go.ChangeShapes Go.WideShapes Go.ChangeAt
set_option maxRecDepth 100000

theorem stepKnown_fast : (fCall kon 300 3 [] h0).map (·.1) = some (.bool true) := by kernel_rfl
theorem stepKnown_value : (evCall kon 300 3 [] h0).map (·.1) = some (.bool true) := by rw [← fCall_eq]; exact stepKnown_fast

theorem stepKnown_law (W : World) (h : W.ShapedOpen Tryz.prog) : Calls Tryz.prog 3 #[] W fun e w' => e = .returned (.bool true) ∧ Below W.heap.size W w' :=
  closed_bool (C := kon) (kon_from0 h) kon_mix stepKnown_value

theorem stepKnown_own : ownKnob Tryz.prog.godebug = none := by kernel_rfl
theorem stepKnown_lifted (os : Os) (started : os.Started) (H : Type) (enc : TypeId × Value → H) :
    ReturnsInHanded {} Tryz.checked os 3 .any (fun w args => (Rows.stepKnownSpec.pre enc Tryz.prog Tryz.f3 [] false w args ∧ laidMetH Tryz.prog Rows.stepKnownRow.laid w) ∧ sizedMet enc Tryz.prog Tryz.f3 (OpenSpec.ofChange Rows.stepKnownSpec) false w args)
      (Rows.stepKnownSpec.post enc Tryz.prog Tryz.f3 false true false false) := by
  refine returnsInHanded_of_change_and_shaped (C := Tryz.checked) (X := fun w _ => laidMetH Tryz.prog Rows.stepKnownRow.laid w) (fun _ _ _ hh h => h.of_heap hh) stepKnown_own started (by kernel_rfl) Tryz.func3
    (ChangeSpec.witness_shaped (enc := enc) (C := Tryz.checked) (os := os) (X := fun w _ => laidMetH Tryz.prog Rows.stepKnownRow.laid w) false (World.laidAll Tryz.prog os Rows.stepKnownRow.laid) #[] 8 (World.laidAll_os _ _ _)
      (World.shaped_of_ZipB (by kernel_rfl) (by kernel_rfl)) (by kernel_rfl) (by kernel_rfl) (by kernel_rfl)
      (by rw [MakeChecks.laidMetH_plain _ _ _ (by kernel_rfl)]; exact laidMet_laidAll _ (by kernel_rfl) (by kernel_rfl))) ?_
  intro W base args ds gs before hval0 hW _ _ _ hsh
  have hW' := hW
  obtain ⟨p, q, hA0, hV, rfl, _, _⟩ := hW
  have hA : DataW.TrodAll enc Tryz.prog W 0 (fun _ => true) true Tryz.f3.params.toList args.toList ds p := hA0
  rw [Tryz.params3] at hA
  obtain ⟨rfl, rfl, rfl⟩ := trodAll_none hA
  obtain ⟨rfl, rfl⟩ := trodVars_none hV
  refine (stepKnown_law W hsh).mono fun e W' ⟨he, hb⟩ => ?_
  subst he
  exact ⟨_, rfl, _, _, _, [], [], [], hW', trodAll_mk1 (shut_bool Tryz.underlying4 _), hA, rfl, hb.frame _, fun h => by cases h⟩

theorem stepKnown_p0 : (Rows.stepKnownRow.wf (OpenSpec.ofChange Rows.stepKnownSpec)) = true := by kernel_rfl
theorem stepKnown_p3 : (Tryz.f3.params.all (Tryz.pinned.checked.prog.readableRec ·)) = true := by kernel_rfl
theorem stepKnown_p4 : (namedTie Tryz.pinned.checked.prog Rows.stepKnownRow.named Rows.stepKnownSpec.vars) = true := by kernel_rfl
theorem stepKnown_p5 : ((Rows.stepKnownRow.stops == [])) = true := by kernel_rfl
theorem stepKnown_p7 : ((Rows.stepKnownRow.knobs == [])) = true := by kernel_rfl
theorem stepKnown_p9 : ((Rows.stepKnownRow.inPlace == Tryz.pinned.checked.prog.inPlace 3)) = true := by kernel_rfl
theorem stepKnown_p10 : ((Rows.stepKnownRow.unfollowed == Tryz.pinned.checked.prog.unfollowed 3)) = true := by kernel_rfl
theorem stepKnown_p11 : ((Rows.stepKnownRow.recurses == Tryz.pinned.checked.prog.recurses 3)) = true := by kernel_rfl
theorem stepKnown_p12 : ((Rows.stepKnownRow.named == Tryz.pinned.checked.prog.varsNamed 3)) = true := by kernel_rfl
theorem stepKnown_p13 : ((Rows.stepKnownRow.maps == (Tryz.f3.params.toList ++ Rows.stepKnownSpec.plain.varTypes Tryz.pinned.checked.prog).any (Tryz.pinned.checked.prog.mapsRec ·))) = true := by kernel_rfl
theorem stepKnown_p14 : ((Rows.stepKnownRow.ifaces == (Tryz.f3.params.toList ++ Rows.stepKnownSpec.plain.varTypes Tryz.pinned.checked.prog).any (Tryz.pinned.checked.prog.ifacesRec ·))) = true := by kernel_rfl
theorem stepKnown_p15 : ((Rows.stepKnownRow.mapsOut == Tryz.pinned.checked.prog.mapsAmong Tryz.f3.resultTypes.toList)) = true := by kernel_rfl
theorem stepKnown_p16 : ((Rows.stepKnownRow.loops == (Tryz.f3.params.toList ++ Rows.stepKnownSpec.plain.varTypes Tryz.pinned.checked.prog).any (Tryz.pinned.checked.prog.loopsFrom ·))) = true := by kernel_rfl
theorem stepKnown_p17 : ((Rows.stepKnownRow.wideKeys == (Tryz.f3.params.toList ++ Rows.stepKnownSpec.plain.varTypes Tryz.pinned.checked.prog ++ Tryz.f3.resultTypes.toList).any (Tryz.pinned.checked.prog.wideKeysFrom ·))) = true := by kernel_rfl
theorem stepKnown_p18 : (Rows.stepKnownSpec.vars.all (Tryz.pinned.checked.prog.varReadable ·)) = true := by kernel_rfl
theorem stepKnown_p19 : (Tryz.f3.resultTypes.all (fun t => Tryz.pinned.checked.prog.readableRec t && decide (t < Tryz.pinned.checked.prog.types.size))) = true := by kernel_rfl
theorem stepKnown_p20 : ((Rows.stepKnownRow.ifacesOut == Tryz.f3.resultTypes.toList.any (Tryz.pinned.checked.prog.ifacesRec ·))) = true := by kernel_rfl
theorem stepKnown_p21 : ((Rows.stepKnownRow.loopsOut == Tryz.f3.resultTypes.toList.any (Tryz.pinned.checked.prog.loopsFrom ·))) = true := by kernel_rfl
theorem stepKnown_p23 : (Rows.stepKnownRow.shortTexts.isNone) = true := by kernel_rfl
theorem stepKnown_p28 : ((Rows.stepKnownRow.kinds == (if Rows.stepKnownRow.domain.isEmpty then [] else Tryz.f3.params.toList.map fun t => match Tryz.pinned.checked.prog.underlying t with | some (.int k) => some k | _ => none))) = true := by kernel_rfl
theorem stepKnown_p29 : ((Rows.stepKnownRow.pinned == Rows.stepKnownRow.pinnedBy)) = true := by kernel_rfl
theorem stepKnown_p30 : ((Rows.stepKnownRow.veiled == (Tryz.f3.params.toList ++ Rows.stepKnownSpec.plain.varTypes Tryz.pinned.checked.prog ++ Tryz.f3.resultTypes.toList).any (Tryz.pinned.checked.prog.veiledRec ·))) = true := by kernel_rfl
theorem stepKnown_p31 : (Rows.stepKnownRow.veiledFits Tryz.pinned.checked.prog Tryz.f3.params.toList (Tryz.f3.params.toList ++ Rows.stepKnownSpec.plain.varTypes Tryz.pinned.checked.prog ++ Tryz.f3.resultTypes.toList)) = true := by kernel_rfl

theorem stepKnown_joined : joinedFacts Tryz.pinned.checked.prog 3 Tryz.f3 Rows.stepKnownSpec Rows.stepKnownRow = true :=
  joinedFacts_mk stepKnown_p0 fact1 fact2 stepKnown_p3 stepKnown_p4 stepKnown_p5 fact6 stepKnown_p7 fact8 stepKnown_p9 stepKnown_p10 stepKnown_p11 stepKnown_p12 stepKnown_p13 stepKnown_p14 stepKnown_p15 stepKnown_p16 stepKnown_p17 stepKnown_p18 stepKnown_p19 stepKnown_p20 stepKnown_p21 fact22 stepKnown_p23 fact24 fact25 fact26 fact27 stepKnown_p28 stepKnown_p29 stepKnown_p30 stepKnown_p31

theorem stepKnown_named : Tryz.pinned.checked.prog.funcNamed Rows.stepKnownRow.func = some 3 := by kernel_rfl
theorem stepKnown_instance : Tryz.f3.isInstance Tryz.pinned.checked.prog Rows.stepKnownRow.origin Rows.stepKnownRow.targs := of_decide_eq_true (by kernel_rfl)
theorem stepKnown_wrapper : Tryz.f3.isWrapper Tryz.pinned.checked.prog Rows.stepKnownRow.wrapper Rows.stepKnownRow.mainSum := by unfold Func.isWrapper; first | (rw [if_pos (by decide +kernel)]; kernel_rfl) | (rw [if_neg (by decide +kernel)]; exact ⟨rfl, rfl⟩)
theorem stepKnown_wf : Rows.stepKnownRow.wfByText (OpenSpec.ofChange Rows.stepKnownSpec) = true := by kernel_rfl
theorem stepKnown_goes : false = Rows.stepKnownRow.goesBy Tryz.pinned.checked.prog := by kernel_rfl

theorem stepKnown_holds : Rows.stepKnownRow.holds Tryz.pinned (OpenSpec.ofChange Rows.stepKnownSpec) :=
  OpenClaim.holds_of_wide 3 Tryz.f3 rfl rfl rfl rfl rfl rfl rfl ⟨rfl, rfl, rfl, rfl, rfl⟩ rfl rfl rfl rfl rfl stepKnown_named Tryz.func3 stepKnown_joined
    stepKnown_instance stepKnown_wrapper
    (fun os started H enc _ => stepKnown_lifted os started H enc)

theorem stepKnown_card : Rows.StepKnownCardSaid :=
  Claim7.holds_tied_plain_at .later [] [.data, .pinned] true (true, "25f4e539a9b2e3794c78c6f4ac72775a66b71286ce15adc5c38e8df8001b9493") false stepKnown_holds (fun _ h => by cases h) stepKnown_wf (fun _ h => by cases h) stepKnown_row_tie rfl ⟨rfl, rfl⟩ factMain rfl
    (fun f fn hf hfn => by
      obtain rfl : f = 3 := Option.some.inj (stepKnown_named.symm.trans hf) |>.symm
      obtain rfl : fn = Tryz.f3 := (Option.some.inj (Tryz.func3.symm.trans hfn)).symm
      exact ⟨factLooks, fun j t ht => by
        rw [Tryz.params3] at ht
        simp at ht⟩)
    stepKnown_goes
#print axioms stepKnown_card
end Go.Proofs.YtnlicjbeobkidaaGreatDoor
