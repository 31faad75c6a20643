/- SdwKnown: true, at every call (it has no arguments); the input reads as it did. No condition. -/
import Derived.Test.YtncmgiddcefpcaaDoorCtx
import Derived.Test.YtncmgiddcefpcaaDoorFacts
import Derived.Test.YtncmgiddcefpcaaDoorTie
import Derived.Test.YtncmgiddcefpcaaDoorCards
import Derived.Test.YtncmgiddcefpcaaDoorChecked
import Derived.ProofKit
import Derived.Lay
import Derived.LaidOnce
import Derived.SevenTiedAt
namespace Go.Proofs.YtncmgiddcefpcaaDoor
open Go Go.Ev Go.RowKit Go.ChangeShapes Go.WideShapes Go.ChangeAt
set_option maxRecDepth 100000

theorem sdwKnown_value : (evCall ctx 200 15 [] h0).map (·.1) = some (.bool true) := by kernel_rfl

theorem sdwKnown_law (W : World) (h : W.ShapedOpen Tryd.prog) : Calls Tryd.prog 15 #[] W fun e w' => e = .returned (.bool true) ∧ Below W.heap.size W w' :=
  closed_bool (C := ctx) (ctx_from h) ctx_mix sdwKnown_value

theorem sdwKnown_own : ownKnob Tryd.prog.godebug = none := by kernel_rfl
theorem sdwKnown_lifted (os : Os) (started : os.Started) (H : Type) (enc : TypeId × Value → H) :
    ReturnsInHanded {} Tryd.checked os 15 .any (fun w args => (Rows.sdwKnownSpec.pre enc Tryd.prog Tryd.f15 [] false w args ∧ laidMetH Tryd.prog Rows.sdwKnownRow.laid w) ∧ sizedMet enc Tryd.prog Tryd.f15 (OpenSpec.ofChange Rows.sdwKnownSpec) false w args)
      (Rows.sdwKnownSpec.post enc Tryd.prog Tryd.f15 false true false false) := by
  refine returnsInHanded_of_change_and_shaped (C := Tryd.checked) (X := fun w _ => laidMetH Tryd.prog Rows.sdwKnownRow.laid w) (fun _ _ _ hh h => h.of_heap hh) sdwKnown_own started (by kernel_rfl) Tryd.func15
    (ChangeSpec.witness_shaped (enc := enc) (C := Tryd.checked) (os := os) (X := fun w _ => laidMetH Tryd.prog Rows.sdwKnownRow.laid w) false (World.laidAll Tryd.prog os Rows.sdwKnownRow.laid) #[] 8 (World.laidAll_os _ _ _)
      (World.shaped_of_ZipB (by kernel_rfl) (by kernel_rfl)) (by kernel_rfl) (by kernel_rfl) (by kernel_rfl)
      (by rw [MakeChecks.laidMetH_plain _ _ _ (by kernel_rfl)]; exact laidMet_laidAll _ (by kernel_rfl) (by kernel_rfl))) ?_
  intro W base args ds gs before hval0 hW _ _ _ hsh
  have hW' := hW
  obtain ⟨p, q, hA0, hV, rfl, _, _⟩ := hW
  have hA : DataW.TrodAll enc Tryd.prog W 0 (fun _ => true) true Tryd.f15.params.toList args.toList ds p := hA0
  rw [Tryd.params15] at hA
  obtain ⟨rfl, rfl, rfl⟩ := trodAll_none hA
  obtain ⟨rfl, rfl⟩ := trodVars_none hV
  refine (sdwKnown_law W hsh).mono fun e W' ⟨he, hb⟩ => ?_
  subst he
  exact ⟨_, rfl, _, _, _, [], [], [], hW', trodAll_mk1 (shut_bool Tryd.underlying4 _), hA, rfl, hb.frame _, fun h => by cases h⟩

theorem sdwKnown_p0 : (Rows.sdwKnownRow.wf (OpenSpec.ofChange Rows.sdwKnownSpec)) = true := by kernel_rfl
theorem sdwKnown_p3 : (Tryd.f15.params.all (Tryd.pinned.checked.prog.readableRec ·)) = true := by kernel_rfl
theorem sdwKnown_p4 : (namedTie Tryd.pinned.checked.prog Rows.sdwKnownRow.named Rows.sdwKnownSpec.vars) = true := by kernel_rfl
theorem sdwKnown_p5 : ((Rows.sdwKnownRow.stops == [])) = true := by kernel_rfl
theorem sdwKnown_p7 : ((Rows.sdwKnownRow.knobs == [])) = true := by kernel_rfl
theorem sdwKnown_p9 : ((Rows.sdwKnownRow.inPlace == Tryd.pinned.checked.prog.inPlace 15)) = true := by kernel_rfl
theorem sdwKnown_p10 : ((Rows.sdwKnownRow.unfollowed == Tryd.pinned.checked.prog.unfollowed 15)) = true := by kernel_rfl
theorem sdwKnown_p11 : ((Rows.sdwKnownRow.recurses == Tryd.pinned.checked.prog.recurses 15)) = true := by kernel_rfl
theorem sdwKnown_p12 : ((Rows.sdwKnownRow.named == Tryd.pinned.checked.prog.varsNamed 15)) = true := by kernel_rfl
theorem sdwKnown_p13 : ((Rows.sdwKnownRow.maps == (Tryd.f15.params.toList ++ Rows.sdwKnownSpec.plain.varTypes Tryd.pinned.checked.prog).any (Tryd.pinned.checked.prog.mapsRec ·))) = true := by kernel_rfl
theorem sdwKnown_p14 : ((Rows.sdwKnownRow.ifaces == (Tryd.f15.params.toList ++ Rows.sdwKnownSpec.plain.varTypes Tryd.pinned.checked.prog).any (Tryd.pinned.checked.prog.ifacesRec ·))) = true := by kernel_rfl
theorem sdwKnown_p15 : ((Rows.sdwKnownRow.mapsOut == Tryd.pinned.checked.prog.mapsAmong Tryd.f15.resultTypes.toList)) = true := by kernel_rfl
theorem sdwKnown_p16 : ((Rows.sdwKnownRow.loops == (Tryd.f15.params.toList ++ Rows.sdwKnownSpec.plain.varTypes Tryd.pinned.checked.prog).any (Tryd.pinned.checked.prog.loopsFrom ·))) = true := by kernel_rfl
theorem sdwKnown_p17 : ((Rows.sdwKnownRow.wideKeys == (Tryd.f15.params.toList ++ Rows.sdwKnownSpec.plain.varTypes Tryd.pinned.checked.prog ++ Tryd.f15.resultTypes.toList).any (Tryd.pinned.checked.prog.wideKeysFrom ·))) = true := by kernel_rfl
theorem sdwKnown_p18 : (Rows.sdwKnownSpec.vars.all (Tryd.pinned.checked.prog.varReadable ·)) = true := by kernel_rfl
theorem sdwKnown_p19 : (Tryd.f15.resultTypes.all (fun t => Tryd.pinned.checked.prog.readableRec t && decide (t < Tryd.pinned.checked.prog.types.size))) = true := by kernel_rfl
theorem sdwKnown_p20 : ((Rows.sdwKnownRow.ifacesOut == Tryd.f15.resultTypes.toList.any (Tryd.pinned.checked.prog.ifacesRec ·))) = true := by kernel_rfl
theorem sdwKnown_p21 : ((Rows.sdwKnownRow.loopsOut == Tryd.f15.resultTypes.toList.any (Tryd.pinned.checked.prog.loopsFrom ·))) = true := by kernel_rfl
theorem sdwKnown_p23 : (Rows.sdwKnownRow.shortTexts.isNone) = true := by kernel_rfl
theorem sdwKnown_p28 : ((Rows.sdwKnownRow.kinds == (if Rows.sdwKnownRow.domain.isEmpty then [] else Tryd.f15.params.toList.map fun t => match Tryd.pinned.checked.prog.underlying t with | some (.int k) => some k | _ => none))) = true := by kernel_rfl
theorem sdwKnown_p29 : ((Rows.sdwKnownRow.pinned == Rows.sdwKnownRow.pinnedBy)) = true := by kernel_rfl
theorem sdwKnown_p30 : ((Rows.sdwKnownRow.veiled == (Tryd.f15.params.toList ++ Rows.sdwKnownSpec.plain.varTypes Tryd.pinned.checked.prog ++ Tryd.f15.resultTypes.toList).any (Tryd.pinned.checked.prog.veiledRec ·))) = true := by kernel_rfl
theorem sdwKnown_p31 : (Rows.sdwKnownRow.veiledFits Tryd.pinned.checked.prog Tryd.f15.params.toList (Tryd.f15.params.toList ++ Rows.sdwKnownSpec.plain.varTypes Tryd.pinned.checked.prog ++ Tryd.f15.resultTypes.toList)) = true := by kernel_rfl

theorem sdwKnown_joined : joinedFacts Tryd.pinned.checked.prog 15 Tryd.f15 Rows.sdwKnownSpec Rows.sdwKnownRow = true :=
  joinedFacts_mk sdwKnown_p0 fact1 fact2 sdwKnown_p3 sdwKnown_p4 sdwKnown_p5 fact6 sdwKnown_p7 fact8 sdwKnown_p9 sdwKnown_p10 sdwKnown_p11 sdwKnown_p12 sdwKnown_p13 sdwKnown_p14 sdwKnown_p15 sdwKnown_p16 sdwKnown_p17 sdwKnown_p18 sdwKnown_p19 sdwKnown_p20 sdwKnown_p21 fact22 sdwKnown_p23 fact24 fact25 fact26 fact27 sdwKnown_p28 sdwKnown_p29 sdwKnown_p30 sdwKnown_p31

theorem sdwKnown_named : Tryd.pinned.checked.prog.funcNamed Rows.sdwKnownRow.func = some 15 := by kernel_rfl
theorem sdwKnown_instance : Tryd.f15.isInstance Tryd.pinned.checked.prog Rows.sdwKnownRow.origin Rows.sdwKnownRow.targs := of_decide_eq_true (by kernel_rfl)
theorem sdwKnown_wrapper : Tryd.f15.isWrapper Tryd.pinned.checked.prog Rows.sdwKnownRow.wrapper Rows.sdwKnownRow.mainSum := by unfold Func.isWrapper; first | (rw [if_pos (by decide +kernel)]; kernel_rfl) | (rw [if_neg (by decide +kernel)]; exact ⟨rfl, rfl⟩)
theorem sdwKnown_wf : Rows.sdwKnownRow.wfByText (OpenSpec.ofChange Rows.sdwKnownSpec) = true := by kernel_rfl
theorem sdwKnown_goes : false = Rows.sdwKnownRow.goesBy Tryd.pinned.checked.prog := by kernel_rfl

theorem sdwKnown_holds : Rows.sdwKnownRow.holds Tryd.pinned (OpenSpec.ofChange Rows.sdwKnownSpec) :=
  OpenClaim.holds_of_wide 15 Tryd.f15 rfl rfl rfl rfl rfl rfl rfl ⟨rfl, rfl, rfl, rfl, rfl⟩ rfl rfl rfl rfl rfl sdwKnown_named Tryd.func15 sdwKnown_joined
    sdwKnown_instance sdwKnown_wrapper
    (fun os started H enc _ => sdwKnown_lifted os started H enc)

theorem sdwKnown_card : Rows.SdwKnownCardSaid :=
  Claim7.holds_tied_plain_at .later [] [.data, .pinned] true (true, "d816627b2ae0baf26f24d7b8848545fff235d33b422c6ccc3e0906bae9e4138d") false sdwKnown_holds (fun _ h => by cases h) sdwKnown_wf (fun _ h => by cases h) sdwKnown_row_tie rfl ⟨rfl, rfl⟩ factMain rfl
    (fun f fn hf hfn => by
      obtain rfl : f = 15 := Option.some.inj (sdwKnown_named.symm.trans hf) |>.symm
      obtain rfl : fn = Tryd.f15 := (Option.some.inj (Tryd.func15.symm.trans hfn)).symm
      exact ⟨factLooks, fun j t ht => by
        rw [Tryd.params15] at ht
        simp at ht⟩)
    sdwKnown_goes
#print axioms sdwKnown_card
end Go.Proofs.YtncmgiddcefpcaaDoor
