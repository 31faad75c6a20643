/- JudgeKnown: true, at every call (it has no arguments); the input reads as it did. No condition. -/
import Derived.Test.YtncmgiddcefpcaaDoorCtx
import Derived.Test.YtncmgiddcefpcaaDoorFacts
import Derived.Test.YtncmgiddcefpcaaDoorTie
import Derived.Test.YtncmgiddcefpcaaDoorCards
import Derived.Test.YtncmgiddcefpcaaDoorChecked
import Derived.ProofKit
import Derived.Lay
import Derived.LaidOnce
import Derived.SevenTiedAt
namespace Go.Proofs.YtncmgiddcefpcaaDoor
open Go Go.Ev Go.RowKit Go.ChangeShapes Go.WideShapes Go.ChangeAt
set_option maxRecDepth 100000

theorem judgeKnown_value : (evCall ctx 200 11 [] h0).map (·.1) = some (.bool true) := by kernel_rfl

theorem judgeKnown_law (W : World) (h : W.ShapedOpen Tryd.prog) : Calls Tryd.prog 11 #[] W fun e w' => e = .returned (.bool true) ∧ Below W.heap.size W w' :=
  closed_bool (C := ctx) (ctx_from h) ctx_mix judgeKnown_value

theorem judgeKnown_own : ownKnob Tryd.prog.godebug = none := by kernel_rfl
theorem judgeKnown_lifted (os : Os) (started : os.Started) (H : Type) (enc : TypeId × Value → H) :
    ReturnsInHanded {} Tryd.checked os 11 .any (fun w args => (Rows.judgeKnownSpec.pre enc Tryd.prog Tryd.f11 [] false w args ∧ laidMetH Tryd.prog Rows.judgeKnownRow.laid w) ∧ sizedMet enc Tryd.prog Tryd.f11 (OpenSpec.ofChange Rows.judgeKnownSpec) false w args)
      (Rows.judgeKnownSpec.post enc Tryd.prog Tryd.f11 false true false false) := by
  refine returnsInHanded_of_change_and_shaped (C := Tryd.checked) (X := fun w _ => laidMetH Tryd.prog Rows.judgeKnownRow.laid w) (fun _ _ _ hh h => h.of_heap hh) judgeKnown_own started (by kernel_rfl) Tryd.func11
    (ChangeSpec.witness_shaped (enc := enc) (C := Tryd.checked) (os := os) (X := fun w _ => laidMetH Tryd.prog Rows.judgeKnownRow.laid w) false (World.laidAll Tryd.prog os Rows.judgeKnownRow.laid) #[] 8 (World.laidAll_os _ _ _)
      (World.shaped_of_ZipB (by kernel_rfl) (by kernel_rfl)) (by kernel_rfl) (by kernel_rfl) (by kernel_rfl)
      (by rw [MakeChecks.laidMetH_plain _ _ _ (by kernel_rfl)]; exact laidMet_laidAll _ (by kernel_rfl) (by kernel_rfl))) ?_
  intro W base args ds gs before hval0 hW _ _ _ hsh
  have hW' := hW
  obtain ⟨p, q, hA0, hV, rfl, _, _⟩ := hW
  have hA : DataW.TrodAll enc Tryd.prog W 0 (fun _ => true) true Tryd.f11.params.toList args.toList ds p := hA0
  rw [Tryd.params11] at hA
  obtain ⟨rfl, rfl, rfl⟩ := trodAll_none hA
  obtain ⟨rfl, rfl⟩ := trodVars_none hV
  refine (judgeKnown_law W hsh).mono fun e W' ⟨he, hb⟩ => ?_
  subst he
  exact ⟨_, rfl, _, _, _, [], [], [], hW', trodAll_mk1 (shut_bool Tryd.underlying4 _), hA, rfl, hb.frame _, fun h => by cases h⟩

theorem judgeKnown_p0 : (Rows.judgeKnownRow.wf (OpenSpec.ofChange Rows.judgeKnownSpec)) = true := by kernel_rfl
theorem judgeKnown_p3 : (Tryd.f11.params.all (Tryd.pinned.checked.prog.readableRec ·)) = true := by kernel_rfl
theorem judgeKnown_p4 : (namedTie Tryd.pinned.checked.prog Rows.judgeKnownRow.named Rows.judgeKnownSpec.vars) = true := by kernel_rfl
theorem judgeKnown_p5 : ((Rows.judgeKnownRow.stops == [])) = true := by kernel_rfl
theorem judgeKnown_p7 : ((Rows.judgeKnownRow.knobs == [])) = true := by kernel_rfl
theorem judgeKnown_p9 : ((Rows.judgeKnownRow.inPlace == Tryd.pinned.checked.prog.inPlace 11)) = true := by kernel_rfl
theorem judgeKnown_p10 : ((Rows.judgeKnownRow.unfollowed == Tryd.pinned.checked.prog.unfollowed 11)) = true := by kernel_rfl
theorem judgeKnown_p11 : ((Rows.judgeKnownRow.recurses == Tryd.pinned.checked.prog.recurses 11)) = true := by kernel_rfl
theorem judgeKnown_p12 : ((Rows.judgeKnownRow.named == Tryd.pinned.checked.prog.varsNamed 11)) = true := by kernel_rfl
theorem judgeKnown_p13 : ((Rows.judgeKnownRow.maps == (Tryd.f11.params.toList ++ Rows.judgeKnownSpec.plain.varTypes Tryd.pinned.checked.prog).any (Tryd.pinned.checked.prog.mapsRec ·))) = true := by kernel_rfl
theorem judgeKnown_p14 : ((Rows.judgeKnownRow.ifaces == (Tryd.f11.params.toList ++ Rows.judgeKnownSpec.plain.varTypes Tryd.pinned.checked.prog).any (Tryd.pinned.checked.prog.ifacesRec ·))) = true := by kernel_rfl
theorem judgeKnown_p15 : ((Rows.judgeKnownRow.mapsOut == Tryd.pinned.checked.prog.mapsAmong Tryd.f11.resultTypes.toList)) = true := by kernel_rfl
theorem judgeKnown_p16 : ((Rows.judgeKnownRow.loops == (Tryd.f11.params.toList ++ Rows.judgeKnownSpec.plain.varTypes Tryd.pinned.checked.prog).any (Tryd.pinned.checked.prog.loopsFrom ·))) = true := by kernel_rfl
theorem judgeKnown_p17 : ((Rows.judgeKnownRow.wideKeys == (Tryd.f11.params.toList ++ Rows.judgeKnownSpec.plain.varTypes Tryd.pinned.checked.prog ++ Tryd.f11.resultTypes.toList).any (Tryd.pinned.checked.prog.wideKeysFrom ·))) = true := by kernel_rfl
theorem judgeKnown_p18 : (Rows.judgeKnownSpec.vars.all (Tryd.pinned.checked.prog.varReadable ·)) = true := by kernel_rfl
theorem judgeKnown_p19 : (Tryd.f11.resultTypes.all (fun t => Tryd.pinned.checked.prog.readableRec t && decide (t < Tryd.pinned.checked.prog.types.size))) = true := by kernel_rfl
theorem judgeKnown_p20 : ((Rows.judgeKnownRow.ifacesOut == Tryd.f11.resultTypes.toList.any (Tryd.pinned.checked.prog.ifacesRec ·))) = true := by kernel_rfl
theorem judgeKnown_p21 : ((Rows.judgeKnownRow.loopsOut == Tryd.f11.resultTypes.toList.any (Tryd.pinned.checked.prog.loopsFrom ·))) = true := by kernel_rfl
theorem judgeKnown_p23 : (Rows.judgeKnownRow.shortTexts.isNone) = true := by kernel_rfl
theorem judgeKnown_p28 : ((Rows.judgeKnownRow.kinds == (if Rows.judgeKnownRow.domain.isEmpty then [] else Tryd.f11.params.toList.map fun t => match Tryd.pinned.checked.prog.underlying t with | some (.int k) => some k | _ => none))) = true := by kernel_rfl
theorem judgeKnown_p29 : ((Rows.judgeKnownRow.pinned == Rows.judgeKnownRow.pinnedBy)) = true := by kernel_rfl
theorem judgeKnown_p30 : ((Rows.judgeKnownRow.veiled == (Tryd.f11.params.toList ++ Rows.judgeKnownSpec.plain.varTypes Tryd.pinned.checked.prog ++ Tryd.f11.resultTypes.toList).any (Tryd.pinned.checked.prog.veiledRec ·))) = true := by kernel_rfl
theorem judgeKnown_p31 : (Rows.judgeKnownRow.veiledFits Tryd.pinned.checked.prog Tryd.f11.params.toList (Tryd.f11.params.toList ++ Rows.judgeKnownSpec.plain.varTypes Tryd.pinned.checked.prog ++ Tryd.f11.resultTypes.toList)) = true := by kernel_rfl

theorem judgeKnown_joined : joinedFacts Tryd.pinned.checked.prog 11 Tryd.f11 Rows.judgeKnownSpec Rows.judgeKnownRow = true :=
  joinedFacts_mk judgeKnown_p0 fact1 fact2 judgeKnown_p3 judgeKnown_p4 judgeKnown_p5 fact6 judgeKnown_p7 fact8 judgeKnown_p9 judgeKnown_p10 judgeKnown_p11 judgeKnown_p12 judgeKnown_p13 judgeKnown_p14 judgeKnown_p15 judgeKnown_p16 judgeKnown_p17 judgeKnown_p18 judgeKnown_p19 judgeKnown_p20 judgeKnown_p21 fact22 judgeKnown_p23 fact24 fact25 fact26 fact27 judgeKnown_p28 judgeKnown_p29 judgeKnown_p30 judgeKnown_p31

theorem judgeKnown_named : Tryd.pinned.checked.prog.funcNamed Rows.judgeKnownRow.func = some 11 := by kernel_rfl
theorem judgeKnown_instance : Tryd.f11.isInstance Tryd.pinned.checked.prog Rows.judgeKnownRow.origin Rows.judgeKnownRow.targs := of_decide_eq_true (by kernel_rfl)
theorem judgeKnown_wrapper : Tryd.f11.isWrapper Tryd.pinned.checked.prog Rows.judgeKnownRow.wrapper Rows.judgeKnownRow.mainSum := by unfold Func.isWrapper; first | (rw [if_pos (by decide +kernel)]; kernel_rfl) | (rw [if_neg (by decide +kernel)]; exact ⟨rfl, rfl⟩)
theorem judgeKnown_wf : Rows.judgeKnownRow.wfByText (OpenSpec.ofChange Rows.judgeKnownSpec) = true := by kernel_rfl
theorem judgeKnown_goes : false = Rows.judgeKnownRow.goesBy Tryd.pinned.checked.prog := by kernel_rfl

theorem judgeKnown_holds : Rows.judgeKnownRow.holds Tryd.pinned (OpenSpec.ofChange Rows.judgeKnownSpec) :=
  OpenClaim.holds_of_wide 11 Tryd.f11 rfl rfl rfl rfl rfl rfl rfl ⟨rfl, rfl, rfl, rfl, rfl⟩ rfl rfl rfl rfl rfl judgeKnown_named Tryd.func11 judgeKnown_joined
    judgeKnown_instance judgeKnown_wrapper
    (fun os started H enc _ => judgeKnown_lifted os started H enc)

theorem judgeKnown_card : Rows.JudgeKnownCardSaid :=
  Claim7.holds_tied_plain_at .later [] [.data, .pinned] true (true, "d816627b2ae0baf26f24d7b8848545fff235d33b422c6ccc3e0906bae9e4138d") false judgeKnown_holds (fun _ h => by cases h) judgeKnown_wf (fun _ h => by cases h) judgeKnown_row_tie rfl ⟨rfl, rfl⟩ factMain rfl
    (fun f fn hf hfn => by
      obtain rfl : f = 11 := Option.some.inj (judgeKnown_named.symm.trans hf) |>.symm
      obtain rfl : fn = Tryd.f11 := (Option.some.inj (Tryd.func11.symm.trans hfn)).symm
      exact ⟨factLooks, fun j t ht => by
        rw [Tryd.params11] at ht
        simp at ht⟩)
    judgeKnown_goes
#print axioms judgeKnown_card
end Go.Proofs.YtncmgiddcefpcaaDoor
