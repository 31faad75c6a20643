/- ProcKnown: true, at every call (it has no arguments); the input reads as it did. No condition. -/
import Derived.Test.YtggkkglpfeofpaaGreatDoorBin4
import Derived.Test.YtggkkglpfeofpaaGreatDoorFacts
import Derived.Test.YtggkkglpfeofpaaGreatDoorTie
import Derived.Test.YtggkkglpfeofpaaGreatDoorCards
import Derived.Test.YtggkkglpfeofpaaGreatDoorChecked
import Derived.ProofKit
import Derived.Lay
import Derived.LaidOnce
import Derived.SevenTiedAt
namespace Go.Proofs.YtggkkglpfeofpaaGreatDoor
open Go Go.Ev Go.RowKit Go.ChangeShapes Go.WideShapes Go.ChangeAt
set_option maxRecDepth 100000

theorem procKnown_value : (evCall ctx 300 3 [] h0).map (·.1) = some (.bool true) := by kernel_rfl

theorem procKnown_law (W : World) (h : W.ShapedOpen Tryz.prog) : Calls Tryz.prog 3 #[] W fun e w' => e = .returned (.bool true) ∧ Below W.heap.size W w' :=
  closed_bool (C := ctx) (ctx_from h) ctx_mix procKnown_value

theorem procKnown_own : ownKnob Tryz.prog.godebug = none := by kernel_rfl
theorem procKnown_lifted (os : Os) (started : os.Started) (H : Type) (enc : TypeId × Value → H) :
    ReturnsInHanded {} Tryz.checked os 3 .any (fun w args => (Rows.procKnownSpec.pre enc Tryz.prog Tryz.f3 [] false w args ∧ laidMetH Tryz.prog Rows.procKnownRow.laid w) ∧ sizedMet enc Tryz.prog Tryz.f3 (OpenSpec.ofChange Rows.procKnownSpec) false w args)
      (Rows.procKnownSpec.post enc Tryz.prog Tryz.f3 false true false false) := by
  refine returnsInHanded_of_change_and_shaped (C := Tryz.checked) (X := fun w _ => laidMetH Tryz.prog Rows.procKnownRow.laid w) (fun _ _ _ hh h => h.of_heap hh) procKnown_own started (by kernel_rfl) Tryz.func3
    (ChangeSpec.witness_shaped (enc := enc) (C := Tryz.checked) (os := os) (X := fun w _ => laidMetH Tryz.prog Rows.procKnownRow.laid w) false (World.laidAll Tryz.prog os Rows.procKnownRow.laid) #[] 8 (World.laidAll_os _ _ _)
      (World.shaped_of_ZipB (by kernel_rfl) (by kernel_rfl)) (by kernel_rfl) (by kernel_rfl) (by kernel_rfl)
      (by rw [MakeChecks.laidMetH_plain _ _ _ (by kernel_rfl)]; exact laidMet_laidAll _ (by kernel_rfl) (by kernel_rfl))) ?_
  intro W base args ds gs before hval0 hW _ _ _ hsh
  have hW' := hW
  obtain ⟨p, q, hA0, hV, rfl, _, _⟩ := hW
  have hA : DataW.TrodAll enc Tryz.prog W 0 (fun _ => true) true Tryz.f3.params.toList args.toList ds p := hA0
  rw [Tryz.params3] at hA
  obtain ⟨rfl, rfl, rfl⟩ := trodAll_none hA
  obtain ⟨rfl, rfl⟩ := trodVars_none hV
  refine (procKnown_law W hsh).mono fun e W' ⟨he, hb⟩ => ?_
  subst he
  exact ⟨_, rfl, _, _, _, [], [], [], hW', trodAll_mk1 (shut_bool Tryz.underlying4 _), hA, rfl, hb.frame _, fun h => by cases h⟩

theorem procKnown_p0 : (Rows.procKnownRow.wf (OpenSpec.ofChange Rows.procKnownSpec)) = true := by kernel_rfl
theorem procKnown_p3 : (Tryz.f3.params.all (Tryz.pinned.checked.prog.readableRec ·)) = true := by kernel_rfl
theorem procKnown_p4 : (namedTie Tryz.pinned.checked.prog Rows.procKnownRow.named Rows.procKnownSpec.vars) = true := by kernel_rfl
theorem procKnown_p5 : ((Rows.procKnownRow.stops == [])) = true := by kernel_rfl
theorem procKnown_p7 : ((Rows.procKnownRow.knobs == [])) = true := by kernel_rfl
theorem procKnown_p9 : ((Rows.procKnownRow.inPlace == Tryz.pinned.checked.prog.inPlace 3)) = true := by kernel_rfl
theorem procKnown_p10 : ((Rows.procKnownRow.unfollowed == Tryz.pinned.checked.prog.unfollowed 3)) = true := by kernel_rfl
theorem procKnown_p11 : ((Rows.procKnownRow.recurses == Tryz.pinned.checked.prog.recurses 3)) = true := by kernel_rfl
theorem procKnown_p12 : ((Rows.procKnownRow.named == Tryz.pinned.checked.prog.varsNamed 3)) = true := by kernel_rfl
theorem procKnown_p13 : ((Rows.procKnownRow.maps == (Tryz.f3.params.toList ++ Rows.procKnownSpec.plain.varTypes Tryz.pinned.checked.prog).any (Tryz.pinned.checked.prog.mapsRec ·))) = true := by kernel_rfl
theorem procKnown_p14 : ((Rows.procKnownRow.ifaces == (Tryz.f3.params.toList ++ Rows.procKnownSpec.plain.varTypes Tryz.pinned.checked.prog).any (Tryz.pinned.checked.prog.ifacesRec ·))) = true := by kernel_rfl
theorem procKnown_p15 : ((Rows.procKnownRow.mapsOut == Tryz.pinned.checked.prog.mapsAmong Tryz.f3.resultTypes.toList)) = true := by kernel_rfl
theorem procKnown_p16 : ((Rows.procKnownRow.loops == (Tryz.f3.params.toList ++ Rows.procKnownSpec.plain.varTypes Tryz.pinned.checked.prog).any (Tryz.pinned.checked.prog.loopsFrom ·))) = true := by kernel_rfl
theorem procKnown_p17 : ((Rows.procKnownRow.wideKeys == (Tryz.f3.params.toList ++ Rows.procKnownSpec.plain.varTypes Tryz.pinned.checked.prog ++ Tryz.f3.resultTypes.toList).any (Tryz.pinned.checked.prog.wideKeysFrom ·))) = true := by kernel_rfl
theorem procKnown_p18 : (Rows.procKnownSpec.vars.all (Tryz.pinned.checked.prog.varReadable ·)) = true := by kernel_rfl
theorem procKnown_p19 : (Tryz.f3.resultTypes.all (fun t => Tryz.pinned.checked.prog.readableRec t && decide (t < Tryz.pinned.checked.prog.types.size))) = true := by kernel_rfl
theorem procKnown_p20 : ((Rows.procKnownRow.ifacesOut == Tryz.f3.resultTypes.toList.any (Tryz.pinned.checked.prog.ifacesRec ·))) = true := by kernel_rfl
theorem procKnown_p21 : ((Rows.procKnownRow.loopsOut == Tryz.f3.resultTypes.toList.any (Tryz.pinned.checked.prog.loopsFrom ·))) = true := by kernel_rfl
theorem procKnown_p23 : (Rows.procKnownRow.shortTexts.isNone) = true := by kernel_rfl
theorem procKnown_p28 : ((Rows.procKnownRow.kinds == (if Rows.procKnownRow.domain.isEmpty then [] else Tryz.f3.params.toList.map fun t => match Tryz.pinned.checked.prog.underlying t with | some (.int k) => some k | _ => none))) = true := by kernel_rfl
theorem procKnown_p29 : ((Rows.procKnownRow.pinned == Rows.procKnownRow.pinnedBy)) = true := by kernel_rfl
theorem procKnown_p30 : ((Rows.procKnownRow.veiled == (Tryz.f3.params.toList ++ Rows.procKnownSpec.plain.varTypes Tryz.pinned.checked.prog ++ Tryz.f3.resultTypes.toList).any (Tryz.pinned.checked.prog.veiledRec ·))) = true := by kernel_rfl
theorem procKnown_p31 : (Rows.procKnownRow.veiledFits Tryz.pinned.checked.prog Tryz.f3.params.toList (Tryz.f3.params.toList ++ Rows.procKnownSpec.plain.varTypes Tryz.pinned.checked.prog ++ Tryz.f3.resultTypes.toList)) = true := by kernel_rfl

theorem procKnown_joined : joinedFacts Tryz.pinned.checked.prog 3 Tryz.f3 Rows.procKnownSpec Rows.procKnownRow = true :=
  joinedFacts_mk procKnown_p0 fact1 fact2 procKnown_p3 procKnown_p4 procKnown_p5 fact6 procKnown_p7 fact8 procKnown_p9 procKnown_p10 procKnown_p11 procKnown_p12 procKnown_p13 procKnown_p14 procKnown_p15 procKnown_p16 procKnown_p17 procKnown_p18 procKnown_p19 procKnown_p20 procKnown_p21 fact22 procKnown_p23 fact24 fact25 fact26 fact27 procKnown_p28 procKnown_p29 procKnown_p30 procKnown_p31

theorem procKnown_named : Tryz.pinned.checked.prog.funcNamed Rows.procKnownRow.func = some 3 := by kernel_rfl
theorem procKnown_instance : Tryz.f3.isInstance Tryz.pinned.checked.prog Rows.procKnownRow.origin Rows.procKnownRow.targs := of_decide_eq_true (by kernel_rfl)
theorem procKnown_wrapper : Tryz.f3.isWrapper Tryz.pinned.checked.prog Rows.procKnownRow.wrapper Rows.procKnownRow.mainSum := by unfold Func.isWrapper; first | (rw [if_pos (by decide +kernel)]; kernel_rfl) | (rw [if_neg (by decide +kernel)]; exact ⟨rfl, rfl⟩)
theorem procKnown_wf : Rows.procKnownRow.wfByText (OpenSpec.ofChange Rows.procKnownSpec) = true := by kernel_rfl
theorem procKnown_goes : false = Rows.procKnownRow.goesBy Tryz.pinned.checked.prog := by kernel_rfl

theorem procKnown_holds : Rows.procKnownRow.holds Tryz.pinned (OpenSpec.ofChange Rows.procKnownSpec) :=
  OpenClaim.holds_of_wide 3 Tryz.f3 rfl rfl rfl rfl rfl rfl rfl ⟨rfl, rfl, rfl, rfl, rfl⟩ rfl rfl rfl rfl rfl procKnown_named Tryz.func3 procKnown_joined
    procKnown_instance procKnown_wrapper
    (fun os started H enc _ => procKnown_lifted os started H enc)

theorem procKnown_card : Rows.ProcKnownCardSaid :=
  Claim7.holds_tied_plain_at .later [] [.data, .pinned] true (true, "c9d4b6a4ebebac2df8b4cec84f002d1c73cf39aa14d64443d1cef520f6c20e70") false procKnown_holds (fun _ h => by cases h) procKnown_wf (fun _ h => by cases h) procKnown_row_tie rfl ⟨rfl, rfl⟩ factMain rfl
    (fun f fn hf hfn => by
      obtain rfl : f = 3 := Option.some.inj (procKnown_named.symm.trans hf) |>.symm
      obtain rfl : fn = Tryz.f3 := (Option.some.inj (Tryz.func3.symm.trans hfn)).symm
      exact ⟨factLooks, fun j t ht => by
        rw [Tryz.params3] at ht
        simp at ht⟩)
    procKnown_goes
#print axioms procKnown_card
end Go.Proofs.YtggkkglpfeofpaaGreatDoor
