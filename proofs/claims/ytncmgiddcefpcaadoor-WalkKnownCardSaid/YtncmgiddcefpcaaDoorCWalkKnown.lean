/- WalkKnown: true, at every call (it has no arguments); the input reads as it did. No condition. -/
import Derived.Test.YtncmgiddcefpcaaDoorCtx
import Derived.Test.YtncmgiddcefpcaaDoorFacts
import Derived.Test.YtncmgiddcefpcaaDoorTie
import Derived.Test.YtncmgiddcefpcaaDoorCards
import Derived.Test.YtncmgiddcefpcaaDoorChecked
import Derived.ProofKit
import Derived.Lay
import Derived.LaidOnce
import Derived.SevenTiedAt
namespace Go.Proofs.YtncmgiddcefpcaaDoor
open Go Go.Ev Go.RowKit Go.ChangeShapes Go.WideShapes Go.ChangeAt
set_option maxRecDepth 100000

theorem walkKnown_value : (evCall ctx 200 10 [] h0).map (·.1) = some (.bool true) := by kernel_rfl

theorem walkKnown_law (W : World) (h : W.ShapedOpen Tryd.prog) : Calls Tryd.prog 10 #[] W fun e w' => e = .returned (.bool true) ∧ Below W.heap.size W w' :=
  closed_bool (C := ctx) (ctx_from h) ctx_mix walkKnown_value

theorem walkKnown_own : ownKnob Tryd.prog.godebug = none := by kernel_rfl
theorem walkKnown_lifted (os : Os) (started : os.Started) (H : Type) (enc : TypeId × Value → H) :
    ReturnsInHanded {} Tryd.checked os 10 .any (fun w args => (Rows.walkKnownSpec.pre enc Tryd.prog Tryd.f10 [] false w args ∧ laidMetH Tryd.prog Rows.walkKnownRow.laid w) ∧ sizedMet enc Tryd.prog Tryd.f10 (OpenSpec.ofChange Rows.walkKnownSpec) false w args)
      (Rows.walkKnownSpec.post enc Tryd.prog Tryd.f10 false true false false) := by
  refine returnsInHanded_of_change_and_shaped (C := Tryd.checked) (X := fun w _ => laidMetH Tryd.prog Rows.walkKnownRow.laid w) (fun _ _ _ hh h => h.of_heap hh) walkKnown_own started (by kernel_rfl) Tryd.func10
    (ChangeSpec.witness_shaped (enc := enc) (C := Tryd.checked) (os := os) (X := fun w _ => laidMetH Tryd.prog Rows.walkKnownRow.laid w) false (World.laidAll Tryd.prog os Rows.walkKnownRow.laid) #[] 8 (World.laidAll_os _ _ _)
      (World.shaped_of_ZipB (by kernel_rfl) (by kernel_rfl)) (by kernel_rfl) (by kernel_rfl) (by kernel_rfl)
      (by rw [MakeChecks.laidMetH_plain _ _ _ (by kernel_rfl)]; exact laidMet_laidAll _ (by kernel_rfl) (by kernel_rfl))) ?_
  intro W base args ds gs before hval0 hW _ _ _ hsh
  have hW' := hW
  obtain ⟨p, q, hA0, hV, rfl, _, _⟩ := hW
  have hA : DataW.TrodAll enc Tryd.prog W 0 (fun _ => true) true Tryd.f10.params.toList args.toList ds p := hA0
  rw [Tryd.params10] at hA
  obtain ⟨rfl, rfl, rfl⟩ := trodAll_none hA
  obtain ⟨rfl, rfl⟩ := trodVars_none hV
  refine (walkKnown_law W hsh).mono fun e W' ⟨he, hb⟩ => ?_
  subst he
  exact ⟨_, rfl, _, _, _, [], [], [], hW', trodAll_mk1 (shut_bool Tryd.underlying4 _), hA, rfl, hb.frame _, fun h => by cases h⟩

theorem walkKnown_p0 : (Rows.walkKnownRow.wf (OpenSpec.ofChange Rows.walkKnownSpec)) = true := by kernel_rfl
theorem walkKnown_p3 : (Tryd.f10.params.all (Tryd.pinned.checked.prog.readableRec ·)) = true := by kernel_rfl
theorem walkKnown_p4 : (namedTie Tryd.pinned.checked.prog Rows.walkKnownRow.named Rows.walkKnownSpec.vars) = true := by kernel_rfl
theorem walkKnown_p5 : ((Rows.walkKnownRow.stops == [])) = true := by kernel_rfl
theorem walkKnown_p7 : ((Rows.walkKnownRow.knobs == [])) = true := by kernel_rfl
theorem walkKnown_p9 : ((Rows.walkKnownRow.inPlace == Tryd.pinned.checked.prog.inPlace 10)) = true := by kernel_rfl
theorem walkKnown_p10 : ((Rows.walkKnownRow.unfollowed == Tryd.pinned.checked.prog.unfollowed 10)) = true := by kernel_rfl
theorem walkKnown_p11 : ((Rows.walkKnownRow.recurses == Tryd.pinned.checked.prog.recurses 10)) = true := by kernel_rfl
theorem walkKnown_p12 : ((Rows.walkKnownRow.named == Tryd.pinned.checked.prog.varsNamed 10)) = true := by kernel_rfl
theorem walkKnown_p13 : ((Rows.walkKnownRow.maps == (Tryd.f10.params.toList ++ Rows.walkKnownSpec.plain.varTypes Tryd.pinned.checked.prog).any (Tryd.pinned.checked.prog.mapsRec ·))) = true := by kernel_rfl
theorem walkKnown_p14 : ((Rows.walkKnownRow.ifaces == (Tryd.f10.params.toList ++ Rows.walkKnownSpec.plain.varTypes Tryd.pinned.checked.prog).any (Tryd.pinned.checked.prog.ifacesRec ·))) = true := by kernel_rfl
theorem walkKnown_p15 : ((Rows.walkKnownRow.mapsOut == Tryd.pinned.checked.prog.mapsAmong Tryd.f10.resultTypes.toList)) = true := by kernel_rfl
theorem walkKnown_p16 : ((Rows.walkKnownRow.loops == (Tryd.f10.params.toList ++ Rows.walkKnownSpec.plain.varTypes Tryd.pinned.checked.prog).any (Tryd.pinned.checked.prog.loopsFrom ·))) = true := by kernel_rfl
theorem walkKnown_p17 : ((Rows.walkKnownRow.wideKeys == (Tryd.f10.params.toList ++ Rows.walkKnownSpec.plain.varTypes Tryd.pinned.checked.prog ++ Tryd.f10.resultTypes.toList).any (Tryd.pinned.checked.prog.wideKeysFrom ·))) = true := by kernel_rfl
theorem walkKnown_p18 : (Rows.walkKnownSpec.vars.all (Tryd.pinned.checked.prog.varReadable ·)) = true := by kernel_rfl
theorem walkKnown_p19 : (Tryd.f10.resultTypes.all (fun t => Tryd.pinned.checked.prog.readableRec t && decide (t < Tryd.pinned.checked.prog.types.size))) = true := by kernel_rfl
theorem walkKnown_p20 : ((Rows.walkKnownRow.ifacesOut == Tryd.f10.resultTypes.toList.any (Tryd.pinned.checked.prog.ifacesRec ·))) = true := by kernel_rfl
theorem walkKnown_p21 : ((Rows.walkKnownRow.loopsOut == Tryd.f10.resultTypes.toList.any (Tryd.pinned.checked.prog.loopsFrom ·))) = true := by kernel_rfl
theorem walkKnown_p23 : (Rows.walkKnownRow.shortTexts.isNone) = true := by kernel_rfl
theorem walkKnown_p28 : ((Rows.walkKnownRow.kinds == (if Rows.walkKnownRow.domain.isEmpty then [] else Tryd.f10.params.toList.map fun t => match Tryd.pinned.checked.prog.underlying t with | some (.int k) => some k | _ => none))) = true := by kernel_rfl
theorem walkKnown_p29 : ((Rows.walkKnownRow.pinned == Rows.walkKnownRow.pinnedBy)) = true := by kernel_rfl
theorem walkKnown_p30 : ((Rows.walkKnownRow.veiled == (Tryd.f10.params.toList ++ Rows.walkKnownSpec.plain.varTypes Tryd.pinned.checked.prog ++ Tryd.f10.resultTypes.toList).any (Tryd.pinned.checked.prog.veiledRec ·))) = true := by kernel_rfl
theorem walkKnown_p31 : (Rows.walkKnownRow.veiledFits Tryd.pinned.checked.prog Tryd.f10.params.toList (Tryd.f10.params.toList ++ Rows.walkKnownSpec.plain.varTypes Tryd.pinned.checked.prog ++ Tryd.f10.resultTypes.toList)) = true := by kernel_rfl

theorem walkKnown_joined : joinedFacts Tryd.pinned.checked.prog 10 Tryd.f10 Rows.walkKnownSpec Rows.walkKnownRow = true :=
  joinedFacts_mk walkKnown_p0 fact1 fact2 walkKnown_p3 walkKnown_p4 walkKnown_p5 fact6 walkKnown_p7 fact8 walkKnown_p9 walkKnown_p10 walkKnown_p11 walkKnown_p12 walkKnown_p13 walkKnown_p14 walkKnown_p15 walkKnown_p16 walkKnown_p17 walkKnown_p18 walkKnown_p19 walkKnown_p20 walkKnown_p21 fact22 walkKnown_p23 fact24 fact25 fact26 fact27 walkKnown_p28 walkKnown_p29 walkKnown_p30 walkKnown_p31

theorem walkKnown_named : Tryd.pinned.checked.prog.funcNamed Rows.walkKnownRow.func = some 10 := by kernel_rfl
theorem walkKnown_instance : Tryd.f10.isInstance Tryd.pinned.checked.prog Rows.walkKnownRow.origin Rows.walkKnownRow.targs := of_decide_eq_true (by kernel_rfl)
theorem walkKnown_wrapper : Tryd.f10.isWrapper Tryd.pinned.checked.prog Rows.walkKnownRow.wrapper Rows.walkKnownRow.mainSum := by unfold Func.isWrapper; first | (rw [if_pos (by decide +kernel)]; kernel_rfl) | (rw [if_neg (by decide +kernel)]; exact ⟨rfl, rfl⟩)
theorem walkKnown_wf : Rows.walkKnownRow.wfByText (OpenSpec.ofChange Rows.walkKnownSpec) = true := by kernel_rfl
theorem walkKnown_goes : false = Rows.walkKnownRow.goesBy Tryd.pinned.checked.prog := by kernel_rfl

theorem walkKnown_holds : Rows.walkKnownRow.holds Tryd.pinned (OpenSpec.ofChange Rows.walkKnownSpec) :=
  OpenClaim.holds_of_wide 10 Tryd.f10 rfl rfl rfl rfl rfl rfl rfl ⟨rfl, rfl, rfl, rfl, rfl⟩ rfl rfl rfl rfl rfl walkKnown_named Tryd.func10 walkKnown_joined
    walkKnown_instance walkKnown_wrapper
    (fun os started H enc _ => walkKnown_lifted os started H enc)

theorem walkKnown_card : Rows.WalkKnownCardSaid :=
  Claim7.holds_tied_plain_at .later [] [.data, .pinned] true (true, "d816627b2ae0baf26f24d7b8848545fff235d33b422c6ccc3e0906bae9e4138d") false walkKnown_holds (fun _ h => by cases h) walkKnown_wf (fun _ h => by cases h) walkKnown_row_tie rfl ⟨rfl, rfl⟩ factMain rfl
    (fun f fn hf hfn => by
      obtain rfl : f = 10 := Option.some.inj (walkKnown_named.symm.trans hf) |>.symm
      obtain rfl : fn = Tryd.f10 := (Option.some.inj (Tryd.func10.symm.trans hfn)).symm
      exact ⟨factLooks, fun j t ht => by
        rw [Tryd.params10] at ht
        simp at ht⟩)
    walkKnown_goes
#print axioms walkKnown_card
end Go.Proofs.YtncmgiddcefpcaaDoor
