/- NamesKnown: true, at every call (it has no arguments); the input reads as it did. No condition. -/
import Derived.Test.YtncmgiddcefpcaaDoorCtx
import Derived.Test.YtncmgiddcefpcaaDoorFacts
import Derived.Test.YtncmgiddcefpcaaDoorTie
import Derived.Test.YtncmgiddcefpcaaDoorCards
import Derived.Test.YtncmgiddcefpcaaDoorChecked
import Derived.ProofKit
import Derived.Lay
import Derived.LaidOnce
import Derived.SevenTiedAt
namespace Go.Proofs.YtncmgiddcefpcaaDoor
open Go Go.Ev Go.RowKit Go.ChangeShapes Go.WideShapes Go.ChangeAt
set_option maxRecDepth 100000

theorem namesKnown_value : (evCall ctx 200 5 [] h0).map (·.1) = some (.bool true) := by kernel_rfl

theorem namesKnown_law (W : World) (h : W.ShapedOpen Tryd.prog) : Calls Tryd.prog 5 #[] W fun e w' => e = .returned (.bool true) ∧ Below W.heap.size W w' :=
  closed_bool (C := ctx) (ctx_from h) ctx_mix namesKnown_value

theorem namesKnown_own : ownKnob Tryd.prog.godebug = none := by kernel_rfl
theorem namesKnown_lifted (os : Os) (started : os.Started) (H : Type) (enc : TypeId × Value → H) :
    ReturnsInHanded {} Tryd.checked os 5 .any (fun w args => (Rows.namesKnownSpec.pre enc Tryd.prog Tryd.f5 [] false w args ∧ laidMetH Tryd.prog Rows.namesKnownRow.laid w) ∧ sizedMet enc Tryd.prog Tryd.f5 (OpenSpec.ofChange Rows.namesKnownSpec) false w args)
      (Rows.namesKnownSpec.post enc Tryd.prog Tryd.f5 false true false false) := by
  refine returnsInHanded_of_change_and_shaped (C := Tryd.checked) (X := fun w _ => laidMetH Tryd.prog Rows.namesKnownRow.laid w) (fun _ _ _ hh h => h.of_heap hh) namesKnown_own started (by kernel_rfl) Tryd.func5
    (ChangeSpec.witness_shaped (enc := enc) (C := Tryd.checked) (os := os) (X := fun w _ => laidMetH Tryd.prog Rows.namesKnownRow.laid w) false (World.laidAll Tryd.prog os Rows.namesKnownRow.laid) #[] 8 (World.laidAll_os _ _ _)
      (World.shaped_of_ZipB (by kernel_rfl) (by kernel_rfl)) (by kernel_rfl) (by kernel_rfl) (by kernel_rfl)
      (by rw [MakeChecks.laidMetH_plain _ _ _ (by kernel_rfl)]; exact laidMet_laidAll _ (by kernel_rfl) (by kernel_rfl))) ?_
  intro W base args ds gs before hval0 hW _ _ _ hsh
  have hW' := hW
  obtain ⟨p, q, hA0, hV, rfl, _, _⟩ := hW
  have hA : DataW.TrodAll enc Tryd.prog W 0 (fun _ => true) true Tryd.f5.params.toList args.toList ds p := hA0
  rw [Tryd.params5] at hA
  obtain ⟨rfl, rfl, rfl⟩ := trodAll_none hA
  obtain ⟨rfl, rfl⟩ := trodVars_none hV
  refine (namesKnown_law W hsh).mono fun e W' ⟨he, hb⟩ => ?_
  subst he
  exact ⟨_, rfl, _, _, _, [], [], [], hW', trodAll_mk1 (shut_bool Tryd.underlying4 _), hA, rfl, hb.frame _, fun h => by cases h⟩

theorem namesKnown_p0 : (Rows.namesKnownRow.wf (OpenSpec.ofChange Rows.namesKnownSpec)) = true := by kernel_rfl
theorem namesKnown_p3 : (Tryd.f5.params.all (Tryd.pinned.checked.prog.readableRec ·)) = true := by kernel_rfl
theorem namesKnown_p4 : (namedTie Tryd.pinned.checked.prog Rows.namesKnownRow.named Rows.namesKnownSpec.vars) = true := by kernel_rfl
theorem namesKnown_p5 : ((Rows.namesKnownRow.stops == [])) = true := by kernel_rfl
theorem namesKnown_p7 : ((Rows.namesKnownRow.knobs == [])) = true := by kernel_rfl
theorem namesKnown_p9 : ((Rows.namesKnownRow.inPlace == Tryd.pinned.checked.prog.inPlace 5)) = true := by kernel_rfl
theorem namesKnown_p10 : ((Rows.namesKnownRow.unfollowed == Tryd.pinned.checked.prog.unfollowed 5)) = true := by kernel_rfl
theorem namesKnown_p11 : ((Rows.namesKnownRow.recurses == Tryd.pinned.checked.prog.recurses 5)) = true := by kernel_rfl
theorem namesKnown_p12 : ((Rows.namesKnownRow.named == Tryd.pinned.checked.prog.varsNamed 5)) = true := by kernel_rfl
theorem namesKnown_p13 : ((Rows.namesKnownRow.maps == (Tryd.f5.params.toList ++ Rows.namesKnownSpec.plain.varTypes Tryd.pinned.checked.prog).any (Tryd.pinned.checked.prog.mapsRec ·))) = true := by kernel_rfl
theorem namesKnown_p14 : ((Rows.namesKnownRow.ifaces == (Tryd.f5.params.toList ++ Rows.namesKnownSpec.plain.varTypes Tryd.pinned.checked.prog).any (Tryd.pinned.checked.prog.ifacesRec ·))) = true := by kernel_rfl
theorem namesKnown_p15 : ((Rows.namesKnownRow.mapsOut == Tryd.pinned.checked.prog.mapsAmong Tryd.f5.resultTypes.toList)) = true := by kernel_rfl
theorem namesKnown_p16 : ((Rows.namesKnownRow.loops == (Tryd.f5.params.toList ++ Rows.namesKnownSpec.plain.varTypes Tryd.pinned.checked.prog).any (Tryd.pinned.checked.prog.loopsFrom ·))) = true := by kernel_rfl
theorem namesKnown_p17 : ((Rows.namesKnownRow.wideKeys == (Tryd.f5.params.toList ++ Rows.namesKnownSpec.plain.varTypes Tryd.pinned.checked.prog ++ Tryd.f5.resultTypes.toList).any (Tryd.pinned.checked.prog.wideKeysFrom ·))) = true := by kernel_rfl
theorem namesKnown_p18 : (Rows.namesKnownSpec.vars.all (Tryd.pinned.checked.prog.varReadable ·)) = true := by kernel_rfl
theorem namesKnown_p19 : (Tryd.f5.resultTypes.all (fun t => Tryd.pinned.checked.prog.readableRec t && decide (t < Tryd.pinned.checked.prog.types.size))) = true := by kernel_rfl
theorem namesKnown_p20 : ((Rows.namesKnownRow.ifacesOut == Tryd.f5.resultTypes.toList.any (Tryd.pinned.checked.prog.ifacesRec ·))) = true := by kernel_rfl
theorem namesKnown_p21 : ((Rows.namesKnownRow.loopsOut == Tryd.f5.resultTypes.toList.any (Tryd.pinned.checked.prog.loopsFrom ·))) = true := by kernel_rfl
theorem namesKnown_p23 : (Rows.namesKnownRow.shortTexts.isNone) = true := by kernel_rfl
theorem namesKnown_p28 : ((Rows.namesKnownRow.kinds == (if Rows.namesKnownRow.domain.isEmpty then [] else Tryd.f5.params.toList.map fun t => match Tryd.pinned.checked.prog.underlying t with | some (.int k) => some k | _ => none))) = true := by kernel_rfl
theorem namesKnown_p29 : ((Rows.namesKnownRow.pinned == Rows.namesKnownRow.pinnedBy)) = true := by kernel_rfl
theorem namesKnown_p30 : ((Rows.namesKnownRow.veiled == (Tryd.f5.params.toList ++ Rows.namesKnownSpec.plain.varTypes Tryd.pinned.checked.prog ++ Tryd.f5.resultTypes.toList).any (Tryd.pinned.checked.prog.veiledRec ·))) = true := by kernel_rfl
theorem namesKnown_p31 : (Rows.namesKnownRow.veiledFits Tryd.pinned.checked.prog Tryd.f5.params.toList (Tryd.f5.params.toList ++ Rows.namesKnownSpec.plain.varTypes Tryd.pinned.checked.prog ++ Tryd.f5.resultTypes.toList)) = true := by kernel_rfl

theorem namesKnown_joined : joinedFacts Tryd.pinned.checked.prog 5 Tryd.f5 Rows.namesKnownSpec Rows.namesKnownRow = true :=
  joinedFacts_mk namesKnown_p0 fact1 fact2 namesKnown_p3 namesKnown_p4 namesKnown_p5 fact6 namesKnown_p7 fact8 namesKnown_p9 namesKnown_p10 namesKnown_p11 namesKnown_p12 namesKnown_p13 namesKnown_p14 namesKnown_p15 namesKnown_p16 namesKnown_p17 namesKnown_p18 namesKnown_p19 namesKnown_p20 namesKnown_p21 fact22 namesKnown_p23 fact24 fact25 fact26 fact27 namesKnown_p28 namesKnown_p29 namesKnown_p30 namesKnown_p31

theorem namesKnown_named : Tryd.pinned.checked.prog.funcNamed Rows.namesKnownRow.func = some 5 := by kernel_rfl
theorem namesKnown_instance : Tryd.f5.isInstance Tryd.pinned.checked.prog Rows.namesKnownRow.origin Rows.namesKnownRow.targs := of_decide_eq_true (by kernel_rfl)
theorem namesKnown_wrapper : Tryd.f5.isWrapper Tryd.pinned.checked.prog Rows.namesKnownRow.wrapper Rows.namesKnownRow.mainSum := by unfold Func.isWrapper; first | (rw [if_pos (by decide +kernel)]; kernel_rfl) | (rw [if_neg (by decide +kernel)]; exact ⟨rfl, rfl⟩)
theorem namesKnown_wf : Rows.namesKnownRow.wfByText (OpenSpec.ofChange Rows.namesKnownSpec) = true := by kernel_rfl
theorem namesKnown_goes : false = Rows.namesKnownRow.goesBy Tryd.pinned.checked.prog := by kernel_rfl

theorem namesKnown_holds : Rows.namesKnownRow.holds Tryd.pinned (OpenSpec.ofChange Rows.namesKnownSpec) :=
  OpenClaim.holds_of_wide 5 Tryd.f5 rfl rfl rfl rfl rfl rfl rfl ⟨rfl, rfl, rfl, rfl, rfl⟩ rfl rfl rfl rfl rfl namesKnown_named Tryd.func5 namesKnown_joined
    namesKnown_instance namesKnown_wrapper
    (fun os started H enc _ => namesKnown_lifted os started H enc)

theorem namesKnown_card : Rows.NamesKnownCardSaid :=
  Claim7.holds_tied_plain_at .later [] [.data, .pinned] true (true, "d816627b2ae0baf26f24d7b8848545fff235d33b422c6ccc3e0906bae9e4138d") false namesKnown_holds (fun _ h => by cases h) namesKnown_wf (fun _ h => by cases h) namesKnown_row_tie rfl ⟨rfl, rfl⟩ factMain rfl
    (fun f fn hf hfn => by
      obtain rfl : f = 5 := Option.some.inj (namesKnown_named.symm.trans hf) |>.symm
      obtain rfl : fn = Tryd.f5 := (Option.some.inj (Tryd.func5.symm.trans hfn)).symm
      exact ⟨factLooks, fun j t ht => by
        rw [Tryd.params5] at ht
        simp at ht⟩)
    namesKnown_goes
#print axioms namesKnown_card
end Go.Proofs.YtncmgiddcefpcaaDoor
