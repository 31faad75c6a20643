/- JudgeNow: true, at every input; the input reads as it did. No condition. -/
import Derived.Test.YtncmgiddcefpcaaGreatDoorLawJudgeNow
import Derived.Test.YtncmgiddcefpcaaGreatDoorFacts
import Derived.Test.YtncmgiddcefpcaaGreatDoorTie
import Derived.Test.YtncmgiddcefpcaaGreatDoorCards
import Derived.Test.YtncmgiddcefpcaaGreatDoorChecked
import Derived.ProofKit
import Derived.Lay
import Derived.LaidOnce
import Derived.SevenTiedAt
import Derived.ChangeMaps5
import Derived.Carry
import Derived.Deep.DeepHandedRow
import Derived.ChangeOld
namespace Go.Proofs.YtncmgiddcefpcaaGreatDoor
open Go Go.Ev Go.RowKit Go.ChangeShapes Go.WideShapes Go.ChangeAt
set_option maxRecDepth 100000

theorem judgeNow_blocks {H : Type} {enc : TypeId × Value → H} {W : World} {t : TypeId} {v : Value} {d : DataW H} {ps : List MemPlace} (h : DataW.Trod enc Tryz.prog W 0 (fun _ => true) true t v d ps) : ∀ x ∈ ps, x.block < W.heap.size := by
  obtain ⟨f, hf⟩ := h; exact DataW.trod_lt f _ _ _ hf
theorem judgeNow_own : ownKnob Tryz.prog.godebug = none := by kernel_rfl
theorem judgeNow_lifted (os : Os) (started : os.Started) (H : Type) (enc : TypeId × Value → H) :
    ReturnsInHanded {} Tryz.checked os 6 .any (fun w args => (Rows.judgeNowSpec.pre enc Tryz.prog Tryz.f6 [] false w args ∧ laidMetH Tryz.prog Rows.judgeNowRow.laid w) ∧ sizedMet enc Tryz.prog Tryz.f6 (OpenSpec.ofChange Rows.judgeNowSpec) false w args)
      (Rows.judgeNowSpec.post enc Tryz.prog Tryz.f6 false true false false) := by
  refine returnsInHanded_of_change_and_shaped (C := Tryz.checked) (X := fun w _ => laidMetH Tryz.prog Rows.judgeNowRow.laid w) (fun _ _ _ hh h => h.of_heap hh) judgeNow_own started (by kernel_rfl) Tryz.func6
    (ChangeSpec.witness_shaped (enc := enc) (C := Tryz.checked) (os := os) (X := fun w _ => laidMetH Tryz.prog Rows.judgeNowRow.laid w) false (World.laidAll Tryz.prog os Rows.judgeNowRow.laid) #[.agg #[.int .i64 0, .int .i64 0, .int .i64 0, .int .i64 0, .int .i64 0, .int .i64 0, .int .i64 0], .agg #[.bool false, .bool false, .bool false], .agg #[.int .i64 0, .int .i64 0, .int .i64 0, .int .i64 0]] 8 (World.laidAll_os _ _ _)
      (World.shaped_of_ZipB (by kernel_rfl) (by kernel_rfl)) (by kernel_rfl) (by kernel_rfl) (by kernel_rfl)
      (by rw [MakeChecks.laidMetH_plain _ _ _ (by kernel_rfl)]; exact laidMet_laidAll _ (by kernel_rfl) (by kernel_rfl))) ?_
  intro W base args ds gs before hval0 hW _ _ _ hsh
  have hW' := hW
  obtain ⟨p, q, hA0, hV, rfl, _, _⟩ := hW
  have hA : DataW.TrodAll enc Tryz.prog W 0 (fun _ => true) true Tryz.f6.params.toList args.toList ds p := hA0
  rw [Tryz.params6] at hA
  obtain ⟨v0, v1, v2, d0, d1, d2, p0, p1, p2, rfl, rfl, rfl, hd0, hd1, hd2⟩ := trodAll_three hA
  have o0 := hval0 0 _ _ (by rw [Tryz.params6]; rfl) rfl
  have r0 := RdT.of hd0
  have o1 := hval0 1 _ _ (by rw [Tryz.params6]; rfl) rfl
  have r1 := RdT.of hd1
  have o2 := hval0 2 _ _ (by rw [Tryz.params6]; rfl) rfl
  have r2 := RdT.of hd2
  obtain ⟨rfl, rfl⟩ := trodVars_none hV
  refine (judgeNow_law W hsh o0 r0 o1 r1 o2 r2).mono fun e W' ⟨he, hb⟩ => ?_
  subst he
  exact ⟨_, rfl, _, _, _, _, _, _, hW', trodAll_mk1 (shut_bool Tryz.underlying4 _), trodAll_mk3 (Below.trod (P := Tryz.prog) fact1 (by kernel_rfl) (of_decide_eq_true (by kernel_rfl)) hd0 hb (judgeNow_blocks hd0)) (Below.trod (P := Tryz.prog) fact1 (by kernel_rfl) (of_decide_eq_true (by kernel_rfl)) hd1 hb (judgeNow_blocks hd1)) (Below.trod (P := Tryz.prog) fact1 (by kernel_rfl) (of_decide_eq_true (by kernel_rfl)) hd2 hb (judgeNow_blocks hd2)), rfl, hb.frame _, fun h => by cases h⟩

theorem judgeNow_p0 : (Rows.judgeNowRow.wf (OpenSpec.ofChange Rows.judgeNowSpec)) = true := by kernel_rfl
theorem judgeNow_p3 : (Tryz.f6.params.all (Tryz.pinned.checked.prog.readableRec ·)) = true := by kernel_rfl
theorem judgeNow_p4 : (namedTie Tryz.pinned.checked.prog Rows.judgeNowRow.named Rows.judgeNowSpec.vars) = true := by kernel_rfl
theorem judgeNow_p5 : ((Rows.judgeNowRow.stops == [])) = true := by kernel_rfl
theorem judgeNow_p7 : ((Rows.judgeNowRow.knobs == [])) = true := by kernel_rfl
theorem judgeNow_p9 : ((Rows.judgeNowRow.inPlace == Tryz.pinned.checked.prog.inPlace 6)) = true := by kernel_rfl
theorem judgeNow_p10 : ((Rows.judgeNowRow.unfollowed == Tryz.pinned.checked.prog.unfollowed 6)) = true := by kernel_rfl
theorem judgeNow_p11 : ((Rows.judgeNowRow.recurses == Tryz.pinned.checked.prog.recurses 6)) = true := by kernel_rfl
theorem judgeNow_p12 : ((Rows.judgeNowRow.named == Tryz.pinned.checked.prog.varsNamed 6)) = true := by kernel_rfl
theorem judgeNow_p13 : ((Rows.judgeNowRow.maps == (Tryz.f6.params.toList ++ Rows.judgeNowSpec.plain.varTypes Tryz.pinned.checked.prog).any (Tryz.pinned.checked.prog.mapsRec ·))) = true := by kernel_rfl
theorem judgeNow_p14 : ((Rows.judgeNowRow.ifaces == (Tryz.f6.params.toList ++ Rows.judgeNowSpec.plain.varTypes Tryz.pinned.checked.prog).any (Tryz.pinned.checked.prog.ifacesRec ·))) = true := by kernel_rfl
theorem judgeNow_p15 : ((Rows.judgeNowRow.mapsOut == Tryz.pinned.checked.prog.mapsAmong Tryz.f6.resultTypes.toList)) = true := by kernel_rfl
theorem judgeNow_p16 : ((Rows.judgeNowRow.loops == (Tryz.f6.params.toList ++ Rows.judgeNowSpec.plain.varTypes Tryz.pinned.checked.prog).any (Tryz.pinned.checked.prog.loopsFrom ·))) = true := by kernel_rfl
theorem judgeNow_p17 : ((Rows.judgeNowRow.wideKeys == (Tryz.f6.params.toList ++ Rows.judgeNowSpec.plain.varTypes Tryz.pinned.checked.prog ++ Tryz.f6.resultTypes.toList).any (Tryz.pinned.checked.prog.wideKeysFrom ·))) = true := by kernel_rfl
theorem judgeNow_p18 : (Rows.judgeNowSpec.vars.all (Tryz.pinned.checked.prog.varReadable ·)) = true := by kernel_rfl
theorem judgeNow_p19 : (Tryz.f6.resultTypes.all (fun t => Tryz.pinned.checked.prog.readableRec t && decide (t < Tryz.pinned.checked.prog.types.size))) = true := by kernel_rfl
theorem judgeNow_p20 : ((Rows.judgeNowRow.ifacesOut == Tryz.f6.resultTypes.toList.any (Tryz.pinned.checked.prog.ifacesRec ·))) = true := by kernel_rfl
theorem judgeNow_p21 : ((Rows.judgeNowRow.loopsOut == Tryz.f6.resultTypes.toList.any (Tryz.pinned.checked.prog.loopsFrom ·))) = true := by kernel_rfl
theorem judgeNow_p23 : (Rows.judgeNowRow.shortTexts.isNone) = true := by kernel_rfl
theorem judgeNow_p28 : ((Rows.judgeNowRow.kinds == (if Rows.judgeNowRow.domain.isEmpty then [] else Tryz.f6.params.toList.map fun t => match Tryz.pinned.checked.prog.underlying t with | some (.int k) => some k | _ => none))) = true := by kernel_rfl
theorem judgeNow_p29 : ((Rows.judgeNowRow.pinned == Rows.judgeNowRow.pinnedBy)) = true := by kernel_rfl
theorem judgeNow_p30 : ((Rows.judgeNowRow.veiled == (Tryz.f6.params.toList ++ Rows.judgeNowSpec.plain.varTypes Tryz.pinned.checked.prog ++ Tryz.f6.resultTypes.toList).any (Tryz.pinned.checked.prog.veiledRec ·))) = true := by kernel_rfl
theorem judgeNow_p31 : (Rows.judgeNowRow.veiledFits Tryz.pinned.checked.prog Tryz.f6.params.toList (Tryz.f6.params.toList ++ Rows.judgeNowSpec.plain.varTypes Tryz.pinned.checked.prog ++ Tryz.f6.resultTypes.toList)) = true := by kernel_rfl

theorem judgeNow_joined : joinedFacts Tryz.pinned.checked.prog 6 Tryz.f6 Rows.judgeNowSpec Rows.judgeNowRow = true :=
  joinedFacts_mk judgeNow_p0 fact1 fact2 judgeNow_p3 judgeNow_p4 judgeNow_p5 fact6 judgeNow_p7 fact8 judgeNow_p9 judgeNow_p10 judgeNow_p11 judgeNow_p12 judgeNow_p13 judgeNow_p14 judgeNow_p15 judgeNow_p16 judgeNow_p17 judgeNow_p18 judgeNow_p19 judgeNow_p20 judgeNow_p21 fact22 judgeNow_p23 fact24 fact25 fact26 fact27 judgeNow_p28 judgeNow_p29 judgeNow_p30 judgeNow_p31

theorem judgeNow_named : Tryz.pinned.checked.prog.funcNamed Rows.judgeNowRow.func = some 6 := by kernel_rfl
theorem judgeNow_instance : Tryz.f6.isInstance Tryz.pinned.checked.prog Rows.judgeNowRow.origin Rows.judgeNowRow.targs := of_decide_eq_true (by kernel_rfl)
theorem judgeNow_wrapper : Tryz.f6.isWrapper Tryz.pinned.checked.prog Rows.judgeNowRow.wrapper Rows.judgeNowRow.mainSum := by unfold Func.isWrapper; first | (rw [if_pos (by decide +kernel)]; kernel_rfl) | (rw [if_neg (by decide +kernel)]; exact ⟨rfl, rfl⟩)
theorem judgeNow_wf : Rows.judgeNowRow.wfByText (OpenSpec.ofChange Rows.judgeNowSpec) = true := by kernel_rfl
theorem judgeNow_goes : false = Rows.judgeNowRow.goesBy Tryz.pinned.checked.prog := by kernel_rfl

theorem judgeNow_holds : Rows.judgeNowRow.holds Tryz.pinned (OpenSpec.ofChange Rows.judgeNowSpec) :=
  OpenClaim.holds_of_wide 6 Tryz.f6 rfl rfl rfl rfl rfl rfl rfl ⟨rfl, rfl, rfl, rfl, rfl⟩ rfl rfl rfl rfl rfl judgeNow_named Tryz.func6 judgeNow_joined
    judgeNow_instance judgeNow_wrapper
    (fun os started H enc _ => judgeNow_lifted os started H enc)

theorem judgeNow_card : Rows.JudgeNowCardSaid :=
  Claim7.holds_tied_plain_at .later [] [.data, .pinned] true (true, "e273f5272d88c497d37e9d766c9a4909ddf1804e3d7dd54ce4e691371479e93c") false judgeNow_holds (fun _ h => by cases h) judgeNow_wf (fun _ h => by cases h) judgeNow_row_tie rfl ⟨rfl, rfl⟩ factMain rfl
    (fun f fn hf hfn => by
      obtain rfl : f = 6 := Option.some.inj (judgeNow_named.symm.trans hf) |>.symm
      obtain rfl : fn = Tryz.f6 := (Option.some.inj (Tryz.func6.symm.trans hfn)).symm
      refine ⟨factLooks, fun j t ht => ?_⟩
      rw [Tryz.params6] at ht
      revert ht
      match j with
      | 0 => intro ht; cases ht; kernel_rfl
      | 1 => intro ht; cases ht; kernel_rfl
      | 2 => intro ht; cases ht; kernel_rfl
      | j + 3 => intro ht; simp at ht)
    judgeNow_goes
#print axioms judgeNow_card
end Go.Proofs.YtncmgiddcefpcaaGreatDoor
