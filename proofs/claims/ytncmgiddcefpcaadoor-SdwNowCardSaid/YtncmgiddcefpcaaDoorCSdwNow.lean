/- SdwNow: true, at every input; the input reads as it did. No condition. -/
import Derived.Test.YtncmgiddcefpcaaDoorLawSdwNow
import Derived.Test.YtncmgiddcefpcaaDoorFacts
import Derived.Test.YtncmgiddcefpcaaDoorTie
import Derived.Test.YtncmgiddcefpcaaDoorCards
import Derived.Test.YtncmgiddcefpcaaDoorChecked
import Derived.ProofKit
import Derived.Lay
import Derived.LaidOnce
import Derived.SevenTiedAt
import Derived.ChangeMaps5
import Derived.Carry
import Derived.Deep.DeepHandedRow
import Derived.ChangeOld
namespace Go.Proofs.YtncmgiddcefpcaaDoor
open Go Go.Ev Go.RowKit Go.ChangeShapes Go.WideShapes Go.ChangeAt
set_option maxRecDepth 100000

theorem sdwNow_blocks {H : Type} {enc : TypeId × Value → H} {W : World} {t : TypeId} {v : Value} {d : DataW H} {ps : List MemPlace} (h : DataW.Trod enc Tryd.prog W 0 (fun _ => true) true t v d ps) : ∀ x ∈ ps, x.block < W.heap.size := by
  obtain ⟨f, hf⟩ := h; exact DataW.trod_lt f _ _ _ hf
theorem sdwNow_own : ownKnob Tryd.prog.godebug = none := by kernel_rfl
theorem sdwNow_lifted (os : Os) (started : os.Started) (H : Type) (enc : TypeId × Value → H) :
    ReturnsInHanded {} Tryd.checked os 17 .any (fun w args => (Rows.sdwNowSpec.pre enc Tryd.prog Tryd.f17 [] false w args ∧ laidMetH Tryd.prog Rows.sdwNowRow.laid w) ∧ sizedMet enc Tryd.prog Tryd.f17 (OpenSpec.ofChange Rows.sdwNowSpec) false w args)
      (Rows.sdwNowSpec.post enc Tryd.prog Tryd.f17 false true false false) := by
  refine returnsInHanded_of_change_and_shaped (C := Tryd.checked) (X := fun w _ => laidMetH Tryd.prog Rows.sdwNowRow.laid w) (fun _ _ _ hh h => h.of_heap hh) sdwNow_own started (by kernel_rfl) Tryd.func17
    (ChangeSpec.witness_shaped (enc := enc) (C := Tryd.checked) (os := os) (X := fun w _ => laidMetH Tryd.prog Rows.sdwNowRow.laid w) false (World.laidAll Tryd.prog os Rows.sdwNowRow.laid) #[Value.agg #[.bool false, .bool false, .bool false], Value.agg #[.int .i64 0, .int .i64 0, .int .i64 0, .int .i64 0], Value.int .u8 0] 8 (World.laidAll_os _ _ _)
      (World.shaped_of_ZipB (by kernel_rfl) (by kernel_rfl)) (by kernel_rfl) (by kernel_rfl) (by kernel_rfl)
      (by rw [MakeChecks.laidMetH_plain _ _ _ (by kernel_rfl)]; exact laidMet_laidAll _ (by kernel_rfl) (by kernel_rfl))) ?_
  intro W base args ds gs before hval0 hW _ _ _ hsh
  have hW' := hW
  obtain ⟨p, q, hA0, hV, rfl, _, _⟩ := hW
  have hA : DataW.TrodAll enc Tryd.prog W 0 (fun _ => true) true Tryd.f17.params.toList args.toList ds p := hA0
  rw [Tryd.params17] at hA
  obtain ⟨v0, v1, v2, d0, d1, d2, p0, p1, p2, rfl, rfl, rfl, hd0, hd1, hd2⟩ := trodAll_three hA
  have o0 := hval0 0 _ _ (by rw [Tryd.params17]; rfl) rfl
  have r0 := RdT.of hd0
  have o1 := hval0 1 _ _ (by rw [Tryd.params17]; rfl) rfl
  have r1 := RdT.of hd1
  have o2 := hval0 2 _ _ (by rw [Tryd.params17]; rfl) rfl
  have r2 := RdT.of hd2
  obtain ⟨rfl, rfl⟩ := trodVars_none hV
  refine (sdwNow_law W hsh o0 r0 o1 r1 o2 r2).mono fun e W' ⟨he, hb⟩ => ?_
  subst he
  exact ⟨_, rfl, _, _, _, _, _, _, hW', trodAll_mk1 (shut_bool Tryd.underlying4 _), trodAll_mk3 (Below.trod (P := Tryd.prog) fact1 (by kernel_rfl) (of_decide_eq_true (by kernel_rfl)) hd0 hb (sdwNow_blocks hd0)) (Below.trod (P := Tryd.prog) fact1 (by kernel_rfl) (of_decide_eq_true (by kernel_rfl)) hd1 hb (sdwNow_blocks hd1)) (Below.trod (P := Tryd.prog) fact1 (by kernel_rfl) (of_decide_eq_true (by kernel_rfl)) hd2 hb (sdwNow_blocks hd2)), rfl, hb.frame _, fun h => by cases h⟩

theorem sdwNow_p0 : (Rows.sdwNowRow.wf (OpenSpec.ofChange Rows.sdwNowSpec)) = true := by kernel_rfl
theorem sdwNow_p3 : (Tryd.f17.params.all (Tryd.pinned.checked.prog.readableRec ·)) = true := by kernel_rfl
theorem sdwNow_p4 : (namedTie Tryd.pinned.checked.prog Rows.sdwNowRow.named Rows.sdwNowSpec.vars) = true := by kernel_rfl
theorem sdwNow_p5 : ((Rows.sdwNowRow.stops == [])) = true := by kernel_rfl
theorem sdwNow_p7 : ((Rows.sdwNowRow.knobs == [])) = true := by kernel_rfl
theorem sdwNow_p9 : ((Rows.sdwNowRow.inPlace == Tryd.pinned.checked.prog.inPlace 17)) = true := by kernel_rfl
theorem sdwNow_p10 : ((Rows.sdwNowRow.unfollowed == Tryd.pinned.checked.prog.unfollowed 17)) = true := by kernel_rfl
theorem sdwNow_p11 : ((Rows.sdwNowRow.recurses == Tryd.pinned.checked.prog.recurses 17)) = true := by kernel_rfl
theorem sdwNow_p12 : ((Rows.sdwNowRow.named == Tryd.pinned.checked.prog.varsNamed 17)) = true := by kernel_rfl
theorem sdwNow_p13 : ((Rows.sdwNowRow.maps == (Tryd.f17.params.toList ++ Rows.sdwNowSpec.plain.varTypes Tryd.pinned.checked.prog).any (Tryd.pinned.checked.prog.mapsRec ·))) = true := by kernel_rfl
theorem sdwNow_p14 : ((Rows.sdwNowRow.ifaces == (Tryd.f17.params.toList ++ Rows.sdwNowSpec.plain.varTypes Tryd.pinned.checked.prog).any (Tryd.pinned.checked.prog.ifacesRec ·))) = true := by kernel_rfl
theorem sdwNow_p15 : ((Rows.sdwNowRow.mapsOut == Tryd.pinned.checked.prog.mapsAmong Tryd.f17.resultTypes.toList)) = true := by kernel_rfl
theorem sdwNow_p16 : ((Rows.sdwNowRow.loops == (Tryd.f17.params.toList ++ Rows.sdwNowSpec.plain.varTypes Tryd.pinned.checked.prog).any (Tryd.pinned.checked.prog.loopsFrom ·))) = true := by kernel_rfl
theorem sdwNow_p17 : ((Rows.sdwNowRow.wideKeys == (Tryd.f17.params.toList ++ Rows.sdwNowSpec.plain.varTypes Tryd.pinned.checked.prog ++ Tryd.f17.resultTypes.toList).any (Tryd.pinned.checked.prog.wideKeysFrom ·))) = true := by kernel_rfl
theorem sdwNow_p18 : (Rows.sdwNowSpec.vars.all (Tryd.pinned.checked.prog.varReadable ·)) = true := by kernel_rfl
theorem sdwNow_p19 : (Tryd.f17.resultTypes.all (fun t => Tryd.pinned.checked.prog.readableRec t && decide (t < Tryd.pinned.checked.prog.types.size))) = true := by kernel_rfl
theorem sdwNow_p20 : ((Rows.sdwNowRow.ifacesOut == Tryd.f17.resultTypes.toList.any (Tryd.pinned.checked.prog.ifacesRec ·))) = true := by kernel_rfl
theorem sdwNow_p21 : ((Rows.sdwNowRow.loopsOut == Tryd.f17.resultTypes.toList.any (Tryd.pinned.checked.prog.loopsFrom ·))) = true := by kernel_rfl
theorem sdwNow_p23 : (Rows.sdwNowRow.shortTexts.isNone) = true := by kernel_rfl
theorem sdwNow_p28 : ((Rows.sdwNowRow.kinds == (if Rows.sdwNowRow.domain.isEmpty then [] else Tryd.f17.params.toList.map fun t => match Tryd.pinned.checked.prog.underlying t with | some (.int k) => some k | _ => none))) = true := by kernel_rfl
theorem sdwNow_p29 : ((Rows.sdwNowRow.pinned == Rows.sdwNowRow.pinnedBy)) = true := by kernel_rfl
theorem sdwNow_p30 : ((Rows.sdwNowRow.veiled == (Tryd.f17.params.toList ++ Rows.sdwNowSpec.plain.varTypes Tryd.pinned.checked.prog ++ Tryd.f17.resultTypes.toList).any (Tryd.pinned.checked.prog.veiledRec ·))) = true := by kernel_rfl
theorem sdwNow_p31 : (Rows.sdwNowRow.veiledFits Tryd.pinned.checked.prog Tryd.f17.params.toList (Tryd.f17.params.toList ++ Rows.sdwNowSpec.plain.varTypes Tryd.pinned.checked.prog ++ Tryd.f17.resultTypes.toList)) = true := by kernel_rfl

theorem sdwNow_joined : joinedFacts Tryd.pinned.checked.prog 17 Tryd.f17 Rows.sdwNowSpec Rows.sdwNowRow = true :=
  joinedFacts_mk sdwNow_p0 fact1 fact2 sdwNow_p3 sdwNow_p4 sdwNow_p5 fact6 sdwNow_p7 fact8 sdwNow_p9 sdwNow_p10 sdwNow_p11 sdwNow_p12 sdwNow_p13 sdwNow_p14 sdwNow_p15 sdwNow_p16 sdwNow_p17 sdwNow_p18 sdwNow_p19 sdwNow_p20 sdwNow_p21 fact22 sdwNow_p23 fact24 fact25 fact26 fact27 sdwNow_p28 sdwNow_p29 sdwNow_p30 sdwNow_p31

theorem sdwNow_named : Tryd.pinned.checked.prog.funcNamed Rows.sdwNowRow.func = some 17 := by kernel_rfl
theorem sdwNow_instance : Tryd.f17.isInstance Tryd.pinned.checked.prog Rows.sdwNowRow.origin Rows.sdwNowRow.targs := of_decide_eq_true (by kernel_rfl)
theorem sdwNow_wrapper : Tryd.f17.isWrapper Tryd.pinned.checked.prog Rows.sdwNowRow.wrapper Rows.sdwNowRow.mainSum := by unfold Func.isWrapper; first | (rw [if_pos (by decide +kernel)]; kernel_rfl) | (rw [if_neg (by decide +kernel)]; exact ⟨rfl, rfl⟩)
theorem sdwNow_wf : Rows.sdwNowRow.wfByText (OpenSpec.ofChange Rows.sdwNowSpec) = true := by kernel_rfl
theorem sdwNow_goes : false = Rows.sdwNowRow.goesBy Tryd.pinned.checked.prog := by kernel_rfl

theorem sdwNow_holds : Rows.sdwNowRow.holds Tryd.pinned (OpenSpec.ofChange Rows.sdwNowSpec) :=
  OpenClaim.holds_of_wide 17 Tryd.f17 rfl rfl rfl rfl rfl rfl rfl ⟨rfl, rfl, rfl, rfl, rfl⟩ rfl rfl rfl rfl rfl sdwNow_named Tryd.func17 sdwNow_joined
    sdwNow_instance sdwNow_wrapper
    (fun os started H enc _ => sdwNow_lifted os started H enc)

theorem sdwNow_card : Rows.SdwNowCardSaid :=
  Claim7.holds_tied_plain_at .later [] [.data, .pinned] true (true, "d816627b2ae0baf26f24d7b8848545fff235d33b422c6ccc3e0906bae9e4138d") false sdwNow_holds (fun _ h => by cases h) sdwNow_wf (fun _ h => by cases h) sdwNow_row_tie rfl ⟨rfl, rfl⟩ factMain rfl
    (fun f fn hf hfn => by
      obtain rfl : f = 17 := Option.some.inj (sdwNow_named.symm.trans hf) |>.symm
      obtain rfl : fn = Tryd.f17 := (Option.some.inj (Tryd.func17.symm.trans hfn)).symm
      refine ⟨factLooks, fun j t ht => ?_⟩
      rw [Tryd.params17] at ht
      revert ht
      match j with
      | 0 => intro ht; cases ht; kernel_rfl
      | 1 => intro ht; cases ht; kernel_rfl
      | 2 => intro ht; cases ht; kernel_rfl
      | j + 3 => intro ht; simp at ht)
    sdwNow_goes
#print axioms sdwNow_card
end Go.Proofs.YtncmgiddcefpcaaDoor
