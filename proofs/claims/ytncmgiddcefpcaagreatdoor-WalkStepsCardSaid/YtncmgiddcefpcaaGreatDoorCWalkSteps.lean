/- WalkSteps: true, at every input; the input reads as it did. No condition. -/
import Derived.Test.YtncmgiddcefpcaaGreatDoorBin12
import Derived.Test.YtncmgiddcefpcaaGreatDoorTie
import Derived.Test.YtncmgiddcefpcaaGreatDoorCards
import Derived.Test.YtncmgiddcefpcaaGreatDoorChecked
import Derived.ProofKit
import Derived.Lay
import Derived.LaidOnce
import Derived.SevenTiedAt
import Derived.ChangeMaps5
import Derived.Carry
import Derived.Deep.DeepHandedRow
import Derived.ChangeOld
namespace Go.Proofs.YtncmgiddcefpcaaGreatDoor
open Go Go.Ev Go.RowKit Go.ChangeShapes Go.WideShapes Go.ChangeAt
set_option maxRecDepth 100000

theorem walkSteps_blocks {H : Type} {enc : TypeId × Value → H} {W : World} {t : TypeId} {v : Value} {d : DataW H} {ps : List MemPlace} (h : DataW.Trod enc Tryz.prog W 0 (fun _ => true) true t v d ps) : ∀ x ∈ ps, x.block < W.heap.size := by
  obtain ⟨f, hf⟩ := h; exact DataW.trod_lt f _ _ _ hf
theorem walkSteps_own : ownKnob Tryz.prog.godebug = none := by kernel_rfl
theorem walkSteps_lifted (os : Os) (started : os.Started) (H : Type) (enc : TypeId × Value → H) :
    ReturnsInHanded {} Tryz.checked os 5 .any (fun w args => (Rows.walkStepsSpec.pre enc Tryz.prog Tryz.f5 [] false w args ∧ laidMetH Tryz.prog Rows.walkStepsRow.laid w) ∧ sizedMet enc Tryz.prog Tryz.f5 (OpenSpec.ofChange Rows.walkStepsSpec) false w args)
      (Rows.walkStepsSpec.post enc Tryz.prog Tryz.f5 false true false false) := by
  refine returnsInHanded_of_change_and_shaped (C := Tryz.checked) (X := fun w _ => laidMetH Tryz.prog Rows.walkStepsRow.laid w) (fun _ _ _ hh h => h.of_heap hh) walkSteps_own started (by kernel_rfl) Tryz.func5
    (ChangeSpec.witness_shaped (enc := enc) (C := Tryz.checked) (os := os) (X := fun w _ => laidMetH Tryz.prog Rows.walkStepsRow.laid w) false (World.laidAll Tryz.prog os Rows.walkStepsRow.laid) #[Value.slice none 0 0, Value.string ByteArray.empty] 8 (World.laidAll_os _ _ _)
      (World.shaped_of_ZipB (by kernel_rfl) (by kernel_rfl)) (by kernel_rfl) (by kernel_rfl) (by kernel_rfl)
      (by rw [MakeChecks.laidMetH_plain _ _ _ (by kernel_rfl)]; exact laidMet_laidAll _ (by kernel_rfl) (by kernel_rfl))) ?_
  intro W base args ds gs before hval0 hW _ _ _ hsh
  have hW' := hW
  obtain ⟨p, q, hA0, hV, rfl, _, _⟩ := hW
  have hA : DataW.TrodAll enc Tryz.prog W 0 (fun _ => true) true Tryz.f5.params.toList args.toList ds p := hA0
  rw [Tryz.params5] at hA
  obtain ⟨v0, v1, d0, d1, p0, p1, rfl, rfl, rfl, hd0, hd1⟩ := trodAll_two hA
  have o0 := hval0 0 _ _ (by rw [Tryz.params5]; rfl) rfl
  have r0 := RdT.of hd0
  have o1 := hval0 1 _ _ (by rw [Tryz.params5]; rfl) rfl
  have r1 := RdT.of hd1
  obtain ⟨rfl, rfl⟩ := trodVars_none hV
  refine (walkSteps_law W hsh o0 r0 o1 r1).mono fun e W' ⟨he, hb⟩ => ?_
  subst he
  exact ⟨_, rfl, _, _, _, _, _, _, hW', trodAll_mk1 (shut_bool Tryz.underlying4 _), trodAll_mk2 (Below.trod (P := Tryz.prog) fact1 (by kernel_rfl) (of_decide_eq_true (by kernel_rfl)) hd0 hb (walkSteps_blocks hd0)) (Below.trod (P := Tryz.prog) fact1 (by kernel_rfl) (of_decide_eq_true (by kernel_rfl)) hd1 hb (walkSteps_blocks hd1)), rfl, hb.frame _, fun h => by cases h⟩

theorem walkSteps_p0 : (Rows.walkStepsRow.wf (OpenSpec.ofChange Rows.walkStepsSpec)) = true := by kernel_rfl
theorem walkSteps_p3 : (Tryz.f5.params.all (Tryz.pinned.checked.prog.readableRec ·)) = true := by kernel_rfl
theorem walkSteps_p4 : (namedTie Tryz.pinned.checked.prog Rows.walkStepsRow.named Rows.walkStepsSpec.vars) = true := by kernel_rfl
theorem walkSteps_p5 : ((Rows.walkStepsRow.stops == [])) = true := by kernel_rfl
theorem walkSteps_p7 : ((Rows.walkStepsRow.knobs == [])) = true := by kernel_rfl
theorem walkSteps_p9 : ((Rows.walkStepsRow.inPlace == Tryz.pinned.checked.prog.inPlace 5)) = true := by kernel_rfl
theorem walkSteps_p10 : ((Rows.walkStepsRow.unfollowed == Tryz.pinned.checked.prog.unfollowed 5)) = true := by kernel_rfl
theorem walkSteps_p11 : ((Rows.walkStepsRow.recurses == Tryz.pinned.checked.prog.recurses 5)) = true := by kernel_rfl
theorem walkSteps_p12 : ((Rows.walkStepsRow.named == Tryz.pinned.checked.prog.varsNamed 5)) = true := by kernel_rfl
theorem walkSteps_p13 : ((Rows.walkStepsRow.maps == (Tryz.f5.params.toList ++ Rows.walkStepsSpec.plain.varTypes Tryz.pinned.checked.prog).any (Tryz.pinned.checked.prog.mapsRec ·))) = true := by kernel_rfl
theorem walkSteps_p14 : ((Rows.walkStepsRow.ifaces == (Tryz.f5.params.toList ++ Rows.walkStepsSpec.plain.varTypes Tryz.pinned.checked.prog).any (Tryz.pinned.checked.prog.ifacesRec ·))) = true := by kernel_rfl
theorem walkSteps_p15 : ((Rows.walkStepsRow.mapsOut == Tryz.pinned.checked.prog.mapsAmong Tryz.f5.resultTypes.toList)) = true := by kernel_rfl
theorem walkSteps_p16 : ((Rows.walkStepsRow.loops == (Tryz.f5.params.toList ++ Rows.walkStepsSpec.plain.varTypes Tryz.pinned.checked.prog).any (Tryz.pinned.checked.prog.loopsFrom ·))) = true := by kernel_rfl
theorem walkSteps_p17 : ((Rows.walkStepsRow.wideKeys == (Tryz.f5.params.toList ++ Rows.walkStepsSpec.plain.varTypes Tryz.pinned.checked.prog ++ Tryz.f5.resultTypes.toList).any (Tryz.pinned.checked.prog.wideKeysFrom ·))) = true := by kernel_rfl
theorem walkSteps_p18 : (Rows.walkStepsSpec.vars.all (Tryz.pinned.checked.prog.varReadable ·)) = true := by kernel_rfl
theorem walkSteps_p19 : (Tryz.f5.resultTypes.all (fun t => Tryz.pinned.checked.prog.readableRec t && decide (t < Tryz.pinned.checked.prog.types.size))) = true := by kernel_rfl
theorem walkSteps_p20 : ((Rows.walkStepsRow.ifacesOut == Tryz.f5.resultTypes.toList.any (Tryz.pinned.checked.prog.ifacesRec ·))) = true := by kernel_rfl
theorem walkSteps_p21 : ((Rows.walkStepsRow.loopsOut == Tryz.f5.resultTypes.toList.any (Tryz.pinned.checked.prog.loopsFrom ·))) = true := by kernel_rfl
theorem walkSteps_p23 : (Rows.walkStepsRow.shortTexts.isNone) = true := by kernel_rfl
theorem walkSteps_p28 : ((Rows.walkStepsRow.kinds == (if Rows.walkStepsRow.domain.isEmpty then [] else Tryz.f5.params.toList.map fun t => match Tryz.pinned.checked.prog.underlying t with | some (.int k) => some k | _ => none))) = true := by kernel_rfl
theorem walkSteps_p29 : ((Rows.walkStepsRow.pinned == Rows.walkStepsRow.pinnedBy)) = true := by kernel_rfl
theorem walkSteps_p30 : ((Rows.walkStepsRow.veiled == (Tryz.f5.params.toList ++ Rows.walkStepsSpec.plain.varTypes Tryz.pinned.checked.prog ++ Tryz.f5.resultTypes.toList).any (Tryz.pinned.checked.prog.veiledRec ·))) = true := by kernel_rfl
theorem walkSteps_p31 : (Rows.walkStepsRow.veiledFits Tryz.pinned.checked.prog Tryz.f5.params.toList (Tryz.f5.params.toList ++ Rows.walkStepsSpec.plain.varTypes Tryz.pinned.checked.prog ++ Tryz.f5.resultTypes.toList)) = true := by kernel_rfl

theorem walkSteps_joined : joinedFacts Tryz.pinned.checked.prog 5 Tryz.f5 Rows.walkStepsSpec Rows.walkStepsRow = true :=
  joinedFacts_mk walkSteps_p0 fact1 fact2 walkSteps_p3 walkSteps_p4 walkSteps_p5 fact6 walkSteps_p7 fact8 walkSteps_p9 walkSteps_p10 walkSteps_p11 walkSteps_p12 walkSteps_p13 walkSteps_p14 walkSteps_p15 walkSteps_p16 walkSteps_p17 walkSteps_p18 walkSteps_p19 walkSteps_p20 walkSteps_p21 fact22 walkSteps_p23 fact24 fact25 fact26 fact27 walkSteps_p28 walkSteps_p29 walkSteps_p30 walkSteps_p31

theorem walkSteps_named : Tryz.pinned.checked.prog.funcNamed Rows.walkStepsRow.func = some 5 := by kernel_rfl
theorem walkSteps_instance : Tryz.f5.isInstance Tryz.pinned.checked.prog Rows.walkStepsRow.origin Rows.walkStepsRow.targs := of_decide_eq_true (by kernel_rfl)
theorem walkSteps_wrapper : Tryz.f5.isWrapper Tryz.pinned.checked.prog Rows.walkStepsRow.wrapper Rows.walkStepsRow.mainSum := by unfold Func.isWrapper; first | (rw [if_pos (by decide +kernel)]; kernel_rfl) | (rw [if_neg (by decide +kernel)]; exact ⟨rfl, rfl⟩)
theorem walkSteps_wf : Rows.walkStepsRow.wfByText (OpenSpec.ofChange Rows.walkStepsSpec) = true := by kernel_rfl
theorem walkSteps_goes : false = Rows.walkStepsRow.goesBy Tryz.pinned.checked.prog := by kernel_rfl

theorem walkSteps_holds : Rows.walkStepsRow.holds Tryz.pinned (OpenSpec.ofChange Rows.walkStepsSpec) :=
  OpenClaim.holds_of_wide 5 Tryz.f5 rfl rfl rfl rfl rfl rfl rfl ⟨rfl, rfl, rfl, rfl, rfl⟩ rfl rfl rfl rfl rfl walkSteps_named Tryz.func5 walkSteps_joined
    walkSteps_instance walkSteps_wrapper
    (fun os started H enc _ => walkSteps_lifted os started H enc)

theorem walkSteps_card : Rows.WalkStepsCardSaid :=
  Claim7.holds_tied_plain_at .later [] [.data, .pinned] true (true, "e273f5272d88c497d37e9d766c9a4909ddf1804e3d7dd54ce4e691371479e93c") false walkSteps_holds (fun _ h => by cases h) walkSteps_wf (fun _ h => by cases h) walkSteps_row_tie rfl ⟨rfl, rfl⟩ factMain rfl
    (fun f fn hf hfn => by
      obtain rfl : f = 5 := Option.some.inj (walkSteps_named.symm.trans hf) |>.symm
      obtain rfl : fn = Tryz.f5 := (Option.some.inj (Tryz.func5.symm.trans hfn)).symm
      refine ⟨factLooks, fun j t ht => ?_⟩
      rw [Tryz.params5] at ht
      revert ht
      match j with
      | 0 => intro ht; cases ht; kernel_rfl
      | 1 => intro ht; cases ht; kernel_rfl
      | j + 2 => intro ht; simp at ht)
    walkSteps_goes
#print axioms walkSteps_card
end Go.Proofs.YtncmgiddcefpcaaGreatDoor
