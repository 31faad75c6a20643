/- WorldKnown: true, at every call (it has no arguments); the input reads as it did. No condition. -/
import Derived.Test.YtpijcnlnncnomaaGreatDoorBin5
import Derived.Test.YtpijcnlnncnomaaGreatDoorFacts
import Derived.Test.YtpijcnlnncnomaaGreatDoorTie
import Derived.Test.YtpijcnlnncnomaaGreatDoorCards
import Derived.Test.YtpijcnlnncnomaaGreatDoorChecked
import Derived.ProofKit
import Derived.Lay
import Derived.LaidOnce
import Derived.SevenTiedAt
namespace Go.Proofs.YtpijcnlnncnomaaGreatDoor
open Go Go.Ev Go.RowKit Go.ChangeShapes Go.WideShapes Go.ChangeAt
set_option maxRecDepth 100000

theorem worldKnown_fast : (fCall kon 300 3 [] h0).map (·.1) = some (.bool true) := by kernel_rfl
theorem worldKnown_value : (evCall kon 300 3 [] h0).map (·.1) = some (.bool true) := by rw [← fCall_eq]; exact worldKnown_fast

theorem worldKnown_law (W : World) (h : W.ShapedOpen Tryz.prog) : Calls Tryz.prog 3 #[] W fun e w' => e = .returned (.bool true) ∧ Below W.heap.size W w' :=
  closed_bool (C := kon) (kon_from0 h) kon_mix worldKnown_value

theorem worldKnown_own : ownKnob Tryz.prog.godebug = none := by kernel_rfl
theorem worldKnown_lifted (os : Os) (started : os.Started) (H : Type) (enc : TypeId × Value → H) :
    ReturnsInHanded {} Tryz.checked os 3 .any (fun w args => (Rows.worldKnownSpec.pre enc Tryz.prog Tryz.f3 [] false w args ∧ laidMetH Tryz.prog Rows.worldKnownRow.laid w) ∧ sizedMet enc Tryz.prog Tryz.f3 (OpenSpec.ofChange Rows.worldKnownSpec) false w args)
      (Rows.worldKnownSpec.post enc Tryz.prog Tryz.f3 false true false false) := by
  refine returnsInHanded_of_change_and_shaped (C := Tryz.checked) (X := fun w _ => laidMetH Tryz.prog Rows.worldKnownRow.laid w) (fun _ _ _ hh h => h.of_heap hh) worldKnown_own started (by kernel_rfl) Tryz.func3
    (ChangeSpec.witness_shaped (enc := enc) (C := Tryz.checked) (os := os) (X := fun w _ => laidMetH Tryz.prog Rows.worldKnownRow.laid w) false (World.laidAll Tryz.prog os Rows.worldKnownRow.laid) #[] 8 (World.laidAll_os _ _ _)
      (World.shaped_of_ZipB (by kernel_rfl) (by kernel_rfl)) (by kernel_rfl) (by kernel_rfl) (by kernel_rfl)
      (by rw [MakeChecks.laidMetH_plain _ _ _ (by kernel_rfl)]; exact laidMet_laidAll _ (by kernel_rfl) (by kernel_rfl))) ?_
  intro W base args ds gs before hval0 hW _ _ _ hsh
  have hW' := hW
  obtain ⟨p, q, hA0, hV, rfl, _, _⟩ := hW
  have hA : DataW.TrodAll enc Tryz.prog W 0 (fun _ => true) true Tryz.f3.params.toList args.toList ds p := hA0
  rw [Tryz.params3] at hA
  obtain ⟨rfl, rfl, rfl⟩ := trodAll_none hA
  obtain ⟨rfl, rfl⟩ := trodVars_none hV
  refine (worldKnown_law W hsh).mono fun e W' ⟨he, hb⟩ => ?_
  subst he
  exact ⟨_, rfl, _, _, _, [], [], [], hW', trodAll_mk1 (shut_bool Tryz.underlying4 _), hA, rfl, hb.frame _, fun h => by cases h⟩

theorem worldKnown_p0 : (Rows.worldKnownRow.wf (OpenSpec.ofChange Rows.worldKnownSpec)) = true := by kernel_rfl
theorem worldKnown_p3 : (Tryz.f3.params.all (Tryz.pinned.checked.prog.readableRec ·)) = true := by kernel_rfl
theorem worldKnown_p4 : (namedTie Tryz.pinned.checked.prog Rows.worldKnownRow.named Rows.worldKnownSpec.vars) = true := by kernel_rfl
theorem worldKnown_p5 : ((Rows.worldKnownRow.stops == [])) = true := by kernel_rfl
theorem worldKnown_p7 : ((Rows.worldKnownRow.knobs == [])) = true := by kernel_rfl
theorem worldKnown_p9 : ((Rows.worldKnownRow.inPlace == Tryz.pinned.checked.prog.inPlace 3)) = true := by kernel_rfl
theorem worldKnown_p10 : ((Rows.worldKnownRow.unfollowed == Tryz.pinned.checked.prog.unfollowed 3)) = true := by kernel_rfl
theorem worldKnown_p11 : ((Rows.worldKnownRow.recurses == Tryz.pinned.checked.prog.recurses 3)) = true := by kernel_rfl
theorem worldKnown_p12 : ((Rows.worldKnownRow.named == Tryz.pinned.checked.prog.varsNamed 3)) = true := by kernel_rfl
theorem worldKnown_p13 : ((Rows.worldKnownRow.maps == (Tryz.f3.params.toList ++ Rows.worldKnownSpec.plain.varTypes Tryz.pinned.checked.prog).any (Tryz.pinned.checked.prog.mapsRec ·))) = true := by kernel_rfl
theorem worldKnown_p14 : ((Rows.worldKnownRow.ifaces == (Tryz.f3.params.toList ++ Rows.worldKnownSpec.plain.varTypes Tryz.pinned.checked.prog).any (Tryz.pinned.checked.prog.ifacesRec ·))) = true := by kernel_rfl
theorem worldKnown_p15 : ((Rows.worldKnownRow.mapsOut == Tryz.pinned.checked.prog.mapsAmong Tryz.f3.resultTypes.toList)) = true := by kernel_rfl
theorem worldKnown_p16 : ((Rows.worldKnownRow.loops == (Tryz.f3.params.toList ++ Rows.worldKnownSpec.plain.varTypes Tryz.pinned.checked.prog).any (Tryz.pinned.checked.prog.loopsFrom ·))) = true := by kernel_rfl
theorem worldKnown_p17 : ((Rows.worldKnownRow.wideKeys == (Tryz.f3.params.toList ++ Rows.worldKnownSpec.plain.varTypes Tryz.pinned.checked.prog ++ Tryz.f3.resultTypes.toList).any (Tryz.pinned.checked.prog.wideKeysFrom ·))) = true := by kernel_rfl
theorem worldKnown_p18 : (Rows.worldKnownSpec.vars.all (Tryz.pinned.checked.prog.varReadable ·)) = true := by kernel_rfl
theorem worldKnown_p19 : (Tryz.f3.resultTypes.all (fun t => Tryz.pinned.checked.prog.readableRec t && decide (t < Tryz.pinned.checked.prog.types.size))) = true := by kernel_rfl
theorem worldKnown_p20 : ((Rows.worldKnownRow.ifacesOut == Tryz.f3.resultTypes.toList.any (Tryz.pinned.checked.prog.ifacesRec ·))) = true := by kernel_rfl
theorem worldKnown_p21 : ((Rows.worldKnownRow.loopsOut == Tryz.f3.resultTypes.toList.any (Tryz.pinned.checked.prog.loopsFrom ·))) = true := by kernel_rfl
theorem worldKnown_p23 : (Rows.worldKnownRow.shortTexts.isNone) = true := by kernel_rfl
theorem worldKnown_p28 : ((Rows.worldKnownRow.kinds == (if Rows.worldKnownRow.domain.isEmpty then [] else Tryz.f3.params.toList.map fun t => match Tryz.pinned.checked.prog.underlying t with | some (.int k) => some k | _ => none))) = true := by kernel_rfl
theorem worldKnown_p29 : ((Rows.worldKnownRow.pinned == Rows.worldKnownRow.pinnedBy)) = true := by kernel_rfl
theorem worldKnown_p30 : ((Rows.worldKnownRow.veiled == (Tryz.f3.params.toList ++ Rows.worldKnownSpec.plain.varTypes Tryz.pinned.checked.prog ++ Tryz.f3.resultTypes.toList).any (Tryz.pinned.checked.prog.veiledRec ·))) = true := by kernel_rfl
theorem worldKnown_p31 : (Rows.worldKnownRow.veiledFits Tryz.pinned.checked.prog Tryz.f3.params.toList (Tryz.f3.params.toList ++ Rows.worldKnownSpec.plain.varTypes Tryz.pinned.checked.prog ++ Tryz.f3.resultTypes.toList)) = true := by kernel_rfl

theorem worldKnown_joined : joinedFacts Tryz.pinned.checked.prog 3 Tryz.f3 Rows.worldKnownSpec Rows.worldKnownRow = true :=
  joinedFacts_mk worldKnown_p0 fact1 fact2 worldKnown_p3 worldKnown_p4 worldKnown_p5 fact6 worldKnown_p7 fact8 worldKnown_p9 worldKnown_p10 worldKnown_p11 worldKnown_p12 worldKnown_p13 worldKnown_p14 worldKnown_p15 worldKnown_p16 worldKnown_p17 worldKnown_p18 worldKnown_p19 worldKnown_p20 worldKnown_p21 fact22 worldKnown_p23 fact24 fact25 fact26 fact27 worldKnown_p28 worldKnown_p29 worldKnown_p30 worldKnown_p31

theorem worldKnown_named : Tryz.pinned.checked.prog.funcNamed Rows.worldKnownRow.func = some 3 := by kernel_rfl
theorem worldKnown_instance : Tryz.f3.isInstance Tryz.pinned.checked.prog Rows.worldKnownRow.origin Rows.worldKnownRow.targs := of_decide_eq_true (by kernel_rfl)
theorem worldKnown_wrapper : Tryz.f3.isWrapper Tryz.pinned.checked.prog Rows.worldKnownRow.wrapper Rows.worldKnownRow.mainSum := by unfold Func.isWrapper; first | (rw [if_pos (by decide +kernel)]; kernel_rfl) | (rw [if_neg (by decide +kernel)]; exact ⟨rfl, rfl⟩)
theorem worldKnown_wf : Rows.worldKnownRow.wfByText (OpenSpec.ofChange Rows.worldKnownSpec) = true := by kernel_rfl
theorem worldKnown_goes : false = Rows.worldKnownRow.goesBy Tryz.pinned.checked.prog := by kernel_rfl

theorem worldKnown_holds : Rows.worldKnownRow.holds Tryz.pinned (OpenSpec.ofChange Rows.worldKnownSpec) :=
  OpenClaim.holds_of_wide 3 Tryz.f3 rfl rfl rfl rfl rfl rfl rfl ⟨rfl, rfl, rfl, rfl, rfl⟩ rfl rfl rfl rfl rfl worldKnown_named Tryz.func3 worldKnown_joined
    worldKnown_instance worldKnown_wrapper
    (fun os started H enc _ => worldKnown_lifted os started H enc)

theorem worldKnown_card : Rows.WorldKnownCardSaid :=
  Claim7.holds_tied_plain_at .later [] [.data, .pinned] true (true, "788255314046b434ee125284ed708c5d17740fc7be13a7301bd40925f3705aef") false worldKnown_holds (fun _ h => by cases h) worldKnown_wf (fun _ h => by cases h) worldKnown_row_tie rfl ⟨rfl, rfl⟩ factMain rfl
    (fun f fn hf hfn => by
      obtain rfl : f = 3 := Option.some.inj (worldKnown_named.symm.trans hf) |>.symm
      obtain rfl : fn = Tryz.f3 := (Option.some.inj (Tryz.func3.symm.trans hfn)).symm
      exact ⟨factLooks, fun j t ht => by
        rw [Tryz.params3] at ht
        simp at ht⟩)
    worldKnown_goes
#print axioms worldKnown_card
end Go.Proofs.YtpijcnlnncnomaaGreatDoor
