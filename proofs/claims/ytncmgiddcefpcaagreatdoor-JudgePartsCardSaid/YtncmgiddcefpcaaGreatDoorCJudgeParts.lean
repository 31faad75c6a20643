/- JudgeParts: true, at every input; the input reads as it did. No condition. -/
import Derived.Test.YtncmgiddcefpcaaGreatDoorBin12
import Derived.Test.YtncmgiddcefpcaaGreatDoorTie
import Derived.Test.YtncmgiddcefpcaaGreatDoorCards
import Derived.Test.YtncmgiddcefpcaaGreatDoorChecked
import Derived.ProofKit
import Derived.Lay
import Derived.LaidOnce
import Derived.SevenTiedAt
import Derived.ChangeMaps5
import Derived.Carry
import Derived.Deep.DeepHandedRow
import Derived.ChangeOld
namespace Go.Proofs.YtncmgiddcefpcaaGreatDoor
open Go Go.Ev Go.RowKit Go.ChangeShapes Go.WideShapes Go.ChangeAt
set_option maxRecDepth 100000

theorem judgeParts_blocks {H : Type} {enc : TypeId × Value → H} {W : World} {t : TypeId} {v : Value} {d : DataW H} {ps : List MemPlace} (h : DataW.Trod enc Tryz.prog W 0 (fun _ => true) true t v d ps) : ∀ x ∈ ps, x.block < W.heap.size := by
  obtain ⟨f, hf⟩ := h; exact DataW.trod_lt f _ _ _ hf
theorem judgeParts_own : ownKnob Tryz.prog.godebug = none := by kernel_rfl
theorem judgeParts_lifted (os : Os) (started : os.Started) (H : Type) (enc : TypeId × Value → H) :
    ReturnsInHanded {} Tryz.checked os 8 .any (fun w args => (Rows.judgePartsSpec.pre enc Tryz.prog Tryz.f8 [] false w args ∧ laidMetH Tryz.prog Rows.judgePartsRow.laid w) ∧ sizedMet enc Tryz.prog Tryz.f8 (OpenSpec.ofChange Rows.judgePartsSpec) false w args)
      (Rows.judgePartsSpec.post enc Tryz.prog Tryz.f8 false true false false) := by
  refine returnsInHanded_of_change_and_shaped (C := Tryz.checked) (X := fun w _ => laidMetH Tryz.prog Rows.judgePartsRow.laid w) (fun _ _ _ hh h => h.of_heap hh) judgeParts_own started (by kernel_rfl) Tryz.func8
    (ChangeSpec.witness_shaped (enc := enc) (C := Tryz.checked) (os := os) (X := fun w _ => laidMetH Tryz.prog Rows.judgePartsRow.laid w) false (World.laidAll Tryz.prog os Rows.judgePartsRow.laid) #[Value.slice none 0 0, Value.slice none 0 0, Value.int .u8 0] 8 (World.laidAll_os _ _ _)
      (World.shaped_of_ZipB (by kernel_rfl) (by kernel_rfl)) (by kernel_rfl) (by kernel_rfl) (by kernel_rfl)
      (by rw [MakeChecks.laidMetH_plain _ _ _ (by kernel_rfl)]; exact laidMet_laidAll _ (by kernel_rfl) (by kernel_rfl))) ?_
  intro W base args ds gs before hval0 hW _ _ _ hsh
  have hW' := hW
  obtain ⟨p, q, hA0, hV, rfl, _, _⟩ := hW
  have hA : DataW.TrodAll enc Tryz.prog W 0 (fun _ => true) true Tryz.f8.params.toList args.toList ds p := hA0
  rw [Tryz.params8] at hA
  obtain ⟨v0, v1, v2, d0, d1, d2, p0, p1, p2, rfl, rfl, rfl, hd0, hd1, hd2⟩ := trodAll_three hA
  have o0 := hval0 0 _ _ (by rw [Tryz.params8]; rfl) rfl
  have r0 := RdT.of hd0
  have o1 := hval0 1 _ _ (by rw [Tryz.params8]; rfl) rfl
  have r1 := RdT.of hd1
  have o2 := hval0 2 _ _ (by rw [Tryz.params8]; rfl) rfl
  have r2 := RdT.of hd2
  obtain ⟨rfl, rfl⟩ := trodVars_none hV
  refine (judgeParts_law W hsh o0 r0 o1 r1 o2 r2).mono fun e W' ⟨he, hb⟩ => ?_
  subst he
  exact ⟨_, rfl, _, _, _, _, _, _, hW', trodAll_mk1 (shut_bool Tryz.underlying4 _), trodAll_mk3 (Below.trod (P := Tryz.prog) fact1 (by kernel_rfl) (of_decide_eq_true (by kernel_rfl)) hd0 hb (judgeParts_blocks hd0)) (Below.trod (P := Tryz.prog) fact1 (by kernel_rfl) (of_decide_eq_true (by kernel_rfl)) hd1 hb (judgeParts_blocks hd1)) (Below.trod (P := Tryz.prog) fact1 (by kernel_rfl) (of_decide_eq_true (by kernel_rfl)) hd2 hb (judgeParts_blocks hd2)), rfl, hb.frame _, fun h => by cases h⟩

theorem judgeParts_p0 : (Rows.judgePartsRow.wf (OpenSpec.ofChange Rows.judgePartsSpec)) = true := by kernel_rfl
theorem judgeParts_p3 : (Tryz.f8.params.all (Tryz.pinned.checked.prog.readableRec ·)) = true := by kernel_rfl
theorem judgeParts_p4 : (namedTie Tryz.pinned.checked.prog Rows.judgePartsRow.named Rows.judgePartsSpec.vars) = true := by kernel_rfl
theorem judgeParts_p5 : ((Rows.judgePartsRow.stops == [])) = true := by kernel_rfl
theorem judgeParts_p7 : ((Rows.judgePartsRow.knobs == [])) = true := by kernel_rfl
theorem judgeParts_p9 : ((Rows.judgePartsRow.inPlace == Tryz.pinned.checked.prog.inPlace 8)) = true := by kernel_rfl
theorem judgeParts_p10 : ((Rows.judgePartsRow.unfollowed == Tryz.pinned.checked.prog.unfollowed 8)) = true := by kernel_rfl
theorem judgeParts_p11 : ((Rows.judgePartsRow.recurses == Tryz.pinned.checked.prog.recurses 8)) = true := by kernel_rfl
theorem judgeParts_p12 : ((Rows.judgePartsRow.named == Tryz.pinned.checked.prog.varsNamed 8)) = true := by kernel_rfl
theorem judgeParts_p13 : ((Rows.judgePartsRow.maps == (Tryz.f8.params.toList ++ Rows.judgePartsSpec.plain.varTypes Tryz.pinned.checked.prog).any (Tryz.pinned.checked.prog.mapsRec ·))) = true := by kernel_rfl
theorem judgeParts_p14 : ((Rows.judgePartsRow.ifaces == (Tryz.f8.params.toList ++ Rows.judgePartsSpec.plain.varTypes Tryz.pinned.checked.prog).any (Tryz.pinned.checked.prog.ifacesRec ·))) = true := by kernel_rfl
theorem judgeParts_p15 : ((Rows.judgePartsRow.mapsOut == Tryz.pinned.checked.prog.mapsAmong Tryz.f8.resultTypes.toList)) = true := by kernel_rfl
theorem judgeParts_p16 : ((Rows.judgePartsRow.loops == (Tryz.f8.params.toList ++ Rows.judgePartsSpec.plain.varTypes Tryz.pinned.checked.prog).any (Tryz.pinned.checked.prog.loopsFrom ·))) = true := by kernel_rfl
theorem judgeParts_p17 : ((Rows.judgePartsRow.wideKeys == (Tryz.f8.params.toList ++ Rows.judgePartsSpec.plain.varTypes Tryz.pinned.checked.prog ++ Tryz.f8.resultTypes.toList).any (Tryz.pinned.checked.prog.wideKeysFrom ·))) = true := by kernel_rfl
theorem judgeParts_p18 : (Rows.judgePartsSpec.vars.all (Tryz.pinned.checked.prog.varReadable ·)) = true := by kernel_rfl
theorem judgeParts_p19 : (Tryz.f8.resultTypes.all (fun t => Tryz.pinned.checked.prog.readableRec t && decide (t < Tryz.pinned.checked.prog.types.size))) = true := by kernel_rfl
theorem judgeParts_p20 : ((Rows.judgePartsRow.ifacesOut == Tryz.f8.resultTypes.toList.any (Tryz.pinned.checked.prog.ifacesRec ·))) = true := by kernel_rfl
theorem judgeParts_p21 : ((Rows.judgePartsRow.loopsOut == Tryz.f8.resultTypes.toList.any (Tryz.pinned.checked.prog.loopsFrom ·))) = true := by kernel_rfl
theorem judgeParts_p23 : (Rows.judgePartsRow.shortTexts.isNone) = true := by kernel_rfl
theorem judgeParts_p28 : ((Rows.judgePartsRow.kinds == (if Rows.judgePartsRow.domain.isEmpty then [] else Tryz.f8.params.toList.map fun t => match Tryz.pinned.checked.prog.underlying t with | some (.int k) => some k | _ => none))) = true := by kernel_rfl
theorem judgeParts_p29 : ((Rows.judgePartsRow.pinned == Rows.judgePartsRow.pinnedBy)) = true := by kernel_rfl
theorem judgeParts_p30 : ((Rows.judgePartsRow.veiled == (Tryz.f8.params.toList ++ Rows.judgePartsSpec.plain.varTypes Tryz.pinned.checked.prog ++ Tryz.f8.resultTypes.toList).any (Tryz.pinned.checked.prog.veiledRec ·))) = true := by kernel_rfl
theorem judgeParts_p31 : (Rows.judgePartsRow.veiledFits Tryz.pinned.checked.prog Tryz.f8.params.toList (Tryz.f8.params.toList ++ Rows.judgePartsSpec.plain.varTypes Tryz.pinned.checked.prog ++ Tryz.f8.resultTypes.toList)) = true := by kernel_rfl

theorem judgeParts_joined : joinedFacts Tryz.pinned.checked.prog 8 Tryz.f8 Rows.judgePartsSpec Rows.judgePartsRow = true :=
  joinedFacts_mk judgeParts_p0 fact1 fact2 judgeParts_p3 judgeParts_p4 judgeParts_p5 fact6 judgeParts_p7 fact8 judgeParts_p9 judgeParts_p10 judgeParts_p11 judgeParts_p12 judgeParts_p13 judgeParts_p14 judgeParts_p15 judgeParts_p16 judgeParts_p17 judgeParts_p18 judgeParts_p19 judgeParts_p20 judgeParts_p21 fact22 judgeParts_p23 fact24 fact25 fact26 fact27 judgeParts_p28 judgeParts_p29 judgeParts_p30 judgeParts_p31

theorem judgeParts_named : Tryz.pinned.checked.prog.funcNamed Rows.judgePartsRow.func = some 8 := by kernel_rfl
theorem judgeParts_instance : Tryz.f8.isInstance Tryz.pinned.checked.prog Rows.judgePartsRow.origin Rows.judgePartsRow.targs := of_decide_eq_true (by kernel_rfl)
theorem judgeParts_wrapper : Tryz.f8.isWrapper Tryz.pinned.checked.prog Rows.judgePartsRow.wrapper Rows.judgePartsRow.mainSum := by unfold Func.isWrapper; first | (rw [if_pos (by decide +kernel)]; kernel_rfl) | (rw [if_neg (by decide +kernel)]; exact ⟨rfl, rfl⟩)
theorem judgeParts_wf : Rows.judgePartsRow.wfByText (OpenSpec.ofChange Rows.judgePartsSpec) = true := by kernel_rfl
theorem judgeParts_goes : false = Rows.judgePartsRow.goesBy Tryz.pinned.checked.prog := by kernel_rfl

theorem judgeParts_holds : Rows.judgePartsRow.holds Tryz.pinned (OpenSpec.ofChange Rows.judgePartsSpec) :=
  OpenClaim.holds_of_wide 8 Tryz.f8 rfl rfl rfl rfl rfl rfl rfl ⟨rfl, rfl, rfl, rfl, rfl⟩ rfl rfl rfl rfl rfl judgeParts_named Tryz.func8 judgeParts_joined
    judgeParts_instance judgeParts_wrapper
    (fun os started H enc _ => judgeParts_lifted os started H enc)

theorem judgeParts_card : Rows.JudgePartsCardSaid :=
  Claim7.holds_tied_plain_at .later [] [.data, .pinned] true (true, "e273f5272d88c497d37e9d766c9a4909ddf1804e3d7dd54ce4e691371479e93c") false judgeParts_holds (fun _ h => by cases h) judgeParts_wf (fun _ h => by cases h) judgeParts_row_tie rfl ⟨rfl, rfl⟩ factMain rfl
    (fun f fn hf hfn => by
      obtain rfl : f = 8 := Option.some.inj (judgeParts_named.symm.trans hf) |>.symm
      obtain rfl : fn = Tryz.f8 := (Option.some.inj (Tryz.func8.symm.trans hfn)).symm
      refine ⟨factLooks, fun j t ht => ?_⟩
      rw [Tryz.params8] at ht
      revert ht
      match j with
      | 0 => intro ht; cases ht; kernel_rfl
      | 1 => intro ht; cases ht; kernel_rfl
      | 2 => intro ht; cases ht; kernel_rfl
      | j + 3 => intro ht; simp at ht)
    judgeParts_goes
#print axioms judgeParts_card
end Go.Proofs.YtncmgiddcefpcaaGreatDoor
