/- PlaceKnown: true, at every call (it has no arguments); the input reads as it did. No condition. -/
import Derived.Test.YtlfldfkfojehiaaGreatDoorBin4
import Derived.Test.YtlfldfkfojehiaaGreatDoorFacts
import Derived.Test.YtlfldfkfojehiaaGreatDoorTie
import Derived.Test.YtlfldfkfojehiaaGreatDoorCards
import Derived.Test.YtlfldfkfojehiaaGreatDoorChecked
import Derived.ProofKit
import Derived.Lay
import Derived.LaidOnce
import Derived.SevenTiedAt
namespace Go.Proofs.YtlfldfkfojehiaaGreatDoor
open Go Go.Ev Go.RowKit Go.ChangeShapes Go.WideShapes Go.ChangeAt
set_option maxRecDepth 100000

theorem placeKnown_fast : (fCall kon 300 3 [] h0).map (·.1) = some (.bool true) := by kernel_rfl
theorem placeKnown_value : (evCall kon 300 3 [] h0).map (·.1) = some (.bool true) := by rw [← fCall_eq]; exact placeKnown_fast

theorem placeKnown_law (W : World) (h : W.ShapedOpen Tryz.prog) : Calls Tryz.prog 3 #[] W fun e w' => e = .returned (.bool true) ∧ Below W.heap.size W w' :=
  closed_bool (C := kon) (kon_from0 h) kon_mix placeKnown_value

theorem placeKnown_own : ownKnob Tryz.prog.godebug = none := by kernel_rfl
theorem placeKnown_lifted (os : Os) (started : os.Started) (H : Type) (enc : TypeId × Value → H) :
    ReturnsInHanded {} Tryz.checked os 3 .any (fun w args => (Rows.placeKnownSpec.pre enc Tryz.prog Tryz.f3 [] false w args ∧ laidMetH Tryz.prog Rows.placeKnownRow.laid w) ∧ sizedMet enc Tryz.prog Tryz.f3 (OpenSpec.ofChange Rows.placeKnownSpec) false w args)
      (Rows.placeKnownSpec.post enc Tryz.prog Tryz.f3 false true false false) := by
  refine returnsInHanded_of_change_and_shaped (C := Tryz.checked) (X := fun w _ => laidMetH Tryz.prog Rows.placeKnownRow.laid w) (fun _ _ _ hh h => h.of_heap hh) placeKnown_own started (by kernel_rfl) Tryz.func3
    (ChangeSpec.witness_shaped (enc := enc) (C := Tryz.checked) (os := os) (X := fun w _ => laidMetH Tryz.prog Rows.placeKnownRow.laid w) false (World.laidAll Tryz.prog os Rows.placeKnownRow.laid) #[] 8 (World.laidAll_os _ _ _)
      (World.shaped_of_ZipB (by kernel_rfl) (by kernel_rfl)) (by kernel_rfl) (by kernel_rfl) (by kernel_rfl)
      (by rw [MakeChecks.laidMetH_plain _ _ _ (by kernel_rfl)]; exact laidMet_laidAll _ (by kernel_rfl) (by kernel_rfl))) ?_
  intro W base args ds gs before hval0 hW _ _ _ hsh
  have hW' := hW
  obtain ⟨p, q, hA0, hV, rfl, _, _⟩ := hW
  have hA : DataW.TrodAll enc Tryz.prog W 0 (fun _ => true) true Tryz.f3.params.toList args.toList ds p := hA0
  rw [Tryz.params3] at hA
  obtain ⟨rfl, rfl, rfl⟩ := trodAll_none hA
  obtain ⟨rfl, rfl⟩ := trodVars_none hV
  refine (placeKnown_law W hsh).mono fun e W' ⟨he, hb⟩ => ?_
  subst he
  exact ⟨_, rfl, _, _, _, [], [], [], hW', trodAll_mk1 (shut_bool Tryz.underlying4 _), hA, rfl, hb.frame _, fun h => by cases h⟩

theorem placeKnown_p0 : (Rows.placeKnownRow.wf (OpenSpec.ofChange Rows.placeKnownSpec)) = true := by kernel_rfl
theorem placeKnown_p3 : (Tryz.f3.params.all (Tryz.pinned.checked.prog.readableRec ·)) = true := by kernel_rfl
theorem placeKnown_p4 : (namedTie Tryz.pinned.checked.prog Rows.placeKnownRow.named Rows.placeKnownSpec.vars) = true := by kernel_rfl
theorem placeKnown_p5 : ((Rows.placeKnownRow.stops == [])) = true := by kernel_rfl
theorem placeKnown_p7 : ((Rows.placeKnownRow.knobs == [])) = true := by kernel_rfl
theorem placeKnown_p9 : ((Rows.placeKnownRow.inPlace == Tryz.pinned.checked.prog.inPlace 3)) = true := by kernel_rfl
theorem placeKnown_p10 : ((Rows.placeKnownRow.unfollowed == Tryz.pinned.checked.prog.unfollowed 3)) = true := by kernel_rfl
theorem placeKnown_p11 : ((Rows.placeKnownRow.recurses == Tryz.pinned.checked.prog.recurses 3)) = true := by kernel_rfl
theorem placeKnown_p12 : ((Rows.placeKnownRow.named == Tryz.pinned.checked.prog.varsNamed 3)) = true := by kernel_rfl
theorem placeKnown_p13 : ((Rows.placeKnownRow.maps == (Tryz.f3.params.toList ++ Rows.placeKnownSpec.plain.varTypes Tryz.pinned.checked.prog).any (Tryz.pinned.checked.prog.mapsRec ·))) = true := by kernel_rfl
theorem placeKnown_p14 : ((Rows.placeKnownRow.ifaces == (Tryz.f3.params.toList ++ Rows.placeKnownSpec.plain.varTypes Tryz.pinned.checked.prog).any (Tryz.pinned.checked.prog.ifacesRec ·))) = true := by kernel_rfl
theorem placeKnown_p15 : ((Rows.placeKnownRow.mapsOut == Tryz.pinned.checked.prog.mapsAmong Tryz.f3.resultTypes.toList)) = true := by kernel_rfl
theorem placeKnown_p16 : ((Rows.placeKnownRow.loops == (Tryz.f3.params.toList ++ Rows.placeKnownSpec.plain.varTypes Tryz.pinned.checked.prog).any (Tryz.pinned.checked.prog.loopsFrom ·))) = true := by kernel_rfl
theorem placeKnown_p17 : ((Rows.placeKnownRow.wideKeys == (Tryz.f3.params.toList ++ Rows.placeKnownSpec.plain.varTypes Tryz.pinned.checked.prog ++ Tryz.f3.resultTypes.toList).any (Tryz.pinned.checked.prog.wideKeysFrom ·))) = true := by kernel_rfl
theorem placeKnown_p18 : (Rows.placeKnownSpec.vars.all (Tryz.pinned.checked.prog.varReadable ·)) = true := by kernel_rfl
theorem placeKnown_p19 : (Tryz.f3.resultTypes.all (fun t => Tryz.pinned.checked.prog.readableRec t && decide (t < Tryz.pinned.checked.prog.types.size))) = true := by kernel_rfl
theorem placeKnown_p20 : ((Rows.placeKnownRow.ifacesOut == Tryz.f3.resultTypes.toList.any (Tryz.pinned.checked.prog.ifacesRec ·))) = true := by kernel_rfl
theorem placeKnown_p21 : ((Rows.placeKnownRow.loopsOut == Tryz.f3.resultTypes.toList.any (Tryz.pinned.checked.prog.loopsFrom ·))) = true := by kernel_rfl
theorem placeKnown_p23 : (Rows.placeKnownRow.shortTexts.isNone) = true := by kernel_rfl
theorem placeKnown_p28 : ((Rows.placeKnownRow.kinds == (if Rows.placeKnownRow.domain.isEmpty then [] else Tryz.f3.params.toList.map fun t => match Tryz.pinned.checked.prog.underlying t with | some (.int k) => some k | _ => none))) = true := by kernel_rfl
theorem placeKnown_p29 : ((Rows.placeKnownRow.pinned == Rows.placeKnownRow.pinnedBy)) = true := by kernel_rfl
theorem placeKnown_p30 : ((Rows.placeKnownRow.veiled == (Tryz.f3.params.toList ++ Rows.placeKnownSpec.plain.varTypes Tryz.pinned.checked.prog ++ Tryz.f3.resultTypes.toList).any (Tryz.pinned.checked.prog.veiledRec ·))) = true := by kernel_rfl
theorem placeKnown_p31 : (Rows.placeKnownRow.veiledFits Tryz.pinned.checked.prog Tryz.f3.params.toList (Tryz.f3.params.toList ++ Rows.placeKnownSpec.plain.varTypes Tryz.pinned.checked.prog ++ Tryz.f3.resultTypes.toList)) = true := by kernel_rfl

theorem placeKnown_joined : joinedFacts Tryz.pinned.checked.prog 3 Tryz.f3 Rows.placeKnownSpec Rows.placeKnownRow = true :=
  joinedFacts_mk placeKnown_p0 fact1 fact2 placeKnown_p3 placeKnown_p4 placeKnown_p5 fact6 placeKnown_p7 fact8 placeKnown_p9 placeKnown_p10 placeKnown_p11 placeKnown_p12 placeKnown_p13 placeKnown_p14 placeKnown_p15 placeKnown_p16 placeKnown_p17 placeKnown_p18 placeKnown_p19 placeKnown_p20 placeKnown_p21 fact22 placeKnown_p23 fact24 fact25 fact26 fact27 placeKnown_p28 placeKnown_p29 placeKnown_p30 placeKnown_p31

theorem placeKnown_named : Tryz.pinned.checked.prog.funcNamed Rows.placeKnownRow.func = some 3 := by kernel_rfl
theorem placeKnown_instance : Tryz.f3.isInstance Tryz.pinned.checked.prog Rows.placeKnownRow.origin Rows.placeKnownRow.targs := of_decide_eq_true (by kernel_rfl)
theorem placeKnown_wrapper : Tryz.f3.isWrapper Tryz.pinned.checked.prog Rows.placeKnownRow.wrapper Rows.placeKnownRow.mainSum := by unfold Func.isWrapper; first | (rw [if_pos (by decide +kernel)]; kernel_rfl) | (rw [if_neg (by decide +kernel)]; exact ⟨rfl, rfl⟩)
theorem placeKnown_wf : Rows.placeKnownRow.wfByText (OpenSpec.ofChange Rows.placeKnownSpec) = true := by kernel_rfl
theorem placeKnown_goes : false = Rows.placeKnownRow.goesBy Tryz.pinned.checked.prog := by kernel_rfl

theorem placeKnown_holds : Rows.placeKnownRow.holds Tryz.pinned (OpenSpec.ofChange Rows.placeKnownSpec) :=
  OpenClaim.holds_of_wide 3 Tryz.f3 rfl rfl rfl rfl rfl rfl rfl ⟨rfl, rfl, rfl, rfl, rfl⟩ rfl rfl rfl rfl rfl placeKnown_named Tryz.func3 placeKnown_joined
    placeKnown_instance placeKnown_wrapper
    (fun os started H enc _ => placeKnown_lifted os started H enc)

theorem placeKnown_card : Rows.PlaceKnownCardSaid :=
  Claim7.holds_tied_plain_at .later [] [.data, .pinned] true (true, "df137ce5aa0dd618198fff66d63ea77ae454b174ea6ff86cde9a6764728a3be7") false placeKnown_holds (fun _ h => by cases h) placeKnown_wf (fun _ h => by cases h) placeKnown_row_tie rfl ⟨rfl, rfl⟩ factMain rfl
    (fun f fn hf hfn => by
      obtain rfl : f = 3 := Option.some.inj (placeKnown_named.symm.trans hf) |>.symm
      obtain rfl : fn = Tryz.f3 := (Option.some.inj (Tryz.func3.symm.trans hfn)).symm
      exact ⟨factLooks, fun j t ht => by
        rw [Tryz.params3] at ht
        simp at ht⟩)
    placeKnown_goes
#print axioms placeKnown_card
end Go.Proofs.YtlfldfkfojehiaaGreatDoor
