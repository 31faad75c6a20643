/- SdwRings: true, at every input; the input reads as it did. No condition. -/
import Derived.Test.YtncmgiddcefpcaaDoorLawSdwRings
import Derived.Test.YtncmgiddcefpcaaDoorFacts
import Derived.Test.YtncmgiddcefpcaaDoorTie
import Derived.Test.YtncmgiddcefpcaaDoorCards
import Derived.Test.YtncmgiddcefpcaaDoorChecked
import Derived.ProofKit
import Derived.Lay
import Derived.LaidOnce
import Derived.SevenTiedAt
import Derived.ChangeMaps5
import Derived.Carry
import Derived.Deep.DeepHandedRow
import Derived.ChangeOld
namespace Go.Proofs.YtncmgiddcefpcaaDoor
open Go Go.Ev Go.RowKit Go.ChangeShapes Go.WideShapes Go.ChangeAt
set_option maxRecDepth 100000

theorem sdwRings_blocks {H : Type} {enc : TypeId × Value → H} {W : World} {t : TypeId} {v : Value} {d : DataW H} {ps : List MemPlace} (h : DataW.Trod enc Tryd.prog W 0 (fun _ => true) true t v d ps) : ∀ x ∈ ps, x.block < W.heap.size := by
  obtain ⟨f, hf⟩ := h; exact DataW.trod_lt f _ _ _ hf
theorem sdwRings_own : ownKnob Tryd.prog.godebug = none := by kernel_rfl
theorem sdwRings_lifted (os : Os) (started : os.Started) (H : Type) (enc : TypeId × Value → H) :
    ReturnsInHanded {} Tryd.checked os 16 .any (fun w args => (Rows.sdwRingsSpec.pre enc Tryd.prog Tryd.f16 [] false w args ∧ laidMetH Tryd.prog Rows.sdwRingsRow.laid w) ∧ sizedMet enc Tryd.prog Tryd.f16 (OpenSpec.ofChange Rows.sdwRingsSpec) false w args)
      (Rows.sdwRingsSpec.post enc Tryd.prog Tryd.f16 false true false false) := by
  refine returnsInHanded_of_change_and_shaped (C := Tryd.checked) (X := fun w _ => laidMetH Tryd.prog Rows.sdwRingsRow.laid w) (fun _ _ _ hh h => h.of_heap hh) sdwRings_own started (by kernel_rfl) Tryd.func16
    (ChangeSpec.witness_shaped (enc := enc) (C := Tryd.checked) (os := os) (X := fun w _ => laidMetH Tryd.prog Rows.sdwRingsRow.laid w) false (World.laidAll Tryd.prog os Rows.sdwRingsRow.laid) #[Value.agg #[.bool false, .bool false, .bool false], Value.agg #[.int .i64 0, .int .i64 0, .int .i64 0, .int .i64 0], Value.int .u8 0] 8 (World.laidAll_os _ _ _)
      (World.shaped_of_ZipB (by kernel_rfl) (by kernel_rfl)) (by kernel_rfl) (by kernel_rfl) (by kernel_rfl)
      (by rw [MakeChecks.laidMetH_plain _ _ _ (by kernel_rfl)]; exact laidMet_laidAll _ (by kernel_rfl) (by kernel_rfl))) ?_
  intro W base args ds gs before hval0 hW _ _ _ hsh
  have hW' := hW
  obtain ⟨p, q, hA0, hV, rfl, _, _⟩ := hW
  have hA : DataW.TrodAll enc Tryd.prog W 0 (fun _ => true) true Tryd.f16.params.toList args.toList ds p := hA0
  rw [Tryd.params16] at hA
  obtain ⟨v0, v1, v2, d0, d1, d2, p0, p1, p2, rfl, rfl, rfl, hd0, hd1, hd2⟩ := trodAll_three hA
  have o0 := hval0 0 _ _ (by rw [Tryd.params16]; rfl) rfl
  have r0 := RdT.of hd0
  have o1 := hval0 1 _ _ (by rw [Tryd.params16]; rfl) rfl
  have r1 := RdT.of hd1
  have o2 := hval0 2 _ _ (by rw [Tryd.params16]; rfl) rfl
  have r2 := RdT.of hd2
  obtain ⟨rfl, rfl⟩ := trodVars_none hV
  refine (sdwRings_law W hsh o0 r0 o1 r1 o2 r2).mono fun e W' ⟨he, hb⟩ => ?_
  subst he
  exact ⟨_, rfl, _, _, _, _, _, _, hW', trodAll_mk1 (shut_bool Tryd.underlying4 _), trodAll_mk3 (Below.trod (P := Tryd.prog) fact1 (by kernel_rfl) (of_decide_eq_true (by kernel_rfl)) hd0 hb (sdwRings_blocks hd0)) (Below.trod (P := Tryd.prog) fact1 (by kernel_rfl) (of_decide_eq_true (by kernel_rfl)) hd1 hb (sdwRings_blocks hd1)) (Below.trod (P := Tryd.prog) fact1 (by kernel_rfl) (of_decide_eq_true (by kernel_rfl)) hd2 hb (sdwRings_blocks hd2)), rfl, hb.frame _, fun h => by cases h⟩

theorem sdwRings_p0 : (Rows.sdwRingsRow.wf (OpenSpec.ofChange Rows.sdwRingsSpec)) = true := by kernel_rfl
theorem sdwRings_p3 : (Tryd.f16.params.all (Tryd.pinned.checked.prog.readableRec ·)) = true := by kernel_rfl
theorem sdwRings_p4 : (namedTie Tryd.pinned.checked.prog Rows.sdwRingsRow.named Rows.sdwRingsSpec.vars) = true := by kernel_rfl
theorem sdwRings_p5 : ((Rows.sdwRingsRow.stops == [])) = true := by kernel_rfl
theorem sdwRings_p7 : ((Rows.sdwRingsRow.knobs == [])) = true := by kernel_rfl
theorem sdwRings_p9 : ((Rows.sdwRingsRow.inPlace == Tryd.pinned.checked.prog.inPlace 16)) = true := by kernel_rfl
theorem sdwRings_p10 : ((Rows.sdwRingsRow.unfollowed == Tryd.pinned.checked.prog.unfollowed 16)) = true := by kernel_rfl
theorem sdwRings_p11 : ((Rows.sdwRingsRow.recurses == Tryd.pinned.checked.prog.recurses 16)) = true := by kernel_rfl
theorem sdwRings_p12 : ((Rows.sdwRingsRow.named == Tryd.pinned.checked.prog.varsNamed 16)) = true := by kernel_rfl
theorem sdwRings_p13 : ((Rows.sdwRingsRow.maps == (Tryd.f16.params.toList ++ Rows.sdwRingsSpec.plain.varTypes Tryd.pinned.checked.prog).any (Tryd.pinned.checked.prog.mapsRec ·))) = true := by kernel_rfl
theorem sdwRings_p14 : ((Rows.sdwRingsRow.ifaces == (Tryd.f16.params.toList ++ Rows.sdwRingsSpec.plain.varTypes Tryd.pinned.checked.prog).any (Tryd.pinned.checked.prog.ifacesRec ·))) = true := by kernel_rfl
theorem sdwRings_p15 : ((Rows.sdwRingsRow.mapsOut == Tryd.pinned.checked.prog.mapsAmong Tryd.f16.resultTypes.toList)) = true := by kernel_rfl
theorem sdwRings_p16 : ((Rows.sdwRingsRow.loops == (Tryd.f16.params.toList ++ Rows.sdwRingsSpec.plain.varTypes Tryd.pinned.checked.prog).any (Tryd.pinned.checked.prog.loopsFrom ·))) = true := by kernel_rfl
theorem sdwRings_p17 : ((Rows.sdwRingsRow.wideKeys == (Tryd.f16.params.toList ++ Rows.sdwRingsSpec.plain.varTypes Tryd.pinned.checked.prog ++ Tryd.f16.resultTypes.toList).any (Tryd.pinned.checked.prog.wideKeysFrom ·))) = true := by kernel_rfl
theorem sdwRings_p18 : (Rows.sdwRingsSpec.vars.all (Tryd.pinned.checked.prog.varReadable ·)) = true := by kernel_rfl
theorem sdwRings_p19 : (Tryd.f16.resultTypes.all (fun t => Tryd.pinned.checked.prog.readableRec t && decide (t < Tryd.pinned.checked.prog.types.size))) = true := by kernel_rfl
theorem sdwRings_p20 : ((Rows.sdwRingsRow.ifacesOut == Tryd.f16.resultTypes.toList.any (Tryd.pinned.checked.prog.ifacesRec ·))) = true := by kernel_rfl
theorem sdwRings_p21 : ((Rows.sdwRingsRow.loopsOut == Tryd.f16.resultTypes.toList.any (Tryd.pinned.checked.prog.loopsFrom ·))) = true := by kernel_rfl
theorem sdwRings_p23 : (Rows.sdwRingsRow.shortTexts.isNone) = true := by kernel_rfl
theorem sdwRings_p28 : ((Rows.sdwRingsRow.kinds == (if Rows.sdwRingsRow.domain.isEmpty then [] else Tryd.f16.params.toList.map fun t => match Tryd.pinned.checked.prog.underlying t with | some (.int k) => some k | _ => none))) = true := by kernel_rfl
theorem sdwRings_p29 : ((Rows.sdwRingsRow.pinned == Rows.sdwRingsRow.pinnedBy)) = true := by kernel_rfl
theorem sdwRings_p30 : ((Rows.sdwRingsRow.veiled == (Tryd.f16.params.toList ++ Rows.sdwRingsSpec.plain.varTypes Tryd.pinned.checked.prog ++ Tryd.f16.resultTypes.toList).any (Tryd.pinned.checked.prog.veiledRec ·))) = true := by kernel_rfl
theorem sdwRings_p31 : (Rows.sdwRingsRow.veiledFits Tryd.pinned.checked.prog Tryd.f16.params.toList (Tryd.f16.params.toList ++ Rows.sdwRingsSpec.plain.varTypes Tryd.pinned.checked.prog ++ Tryd.f16.resultTypes.toList)) = true := by kernel_rfl

theorem sdwRings_joined : joinedFacts Tryd.pinned.checked.prog 16 Tryd.f16 Rows.sdwRingsSpec Rows.sdwRingsRow = true :=
  joinedFacts_mk sdwRings_p0 fact1 fact2 sdwRings_p3 sdwRings_p4 sdwRings_p5 fact6 sdwRings_p7 fact8 sdwRings_p9 sdwRings_p10 sdwRings_p11 sdwRings_p12 sdwRings_p13 sdwRings_p14 sdwRings_p15 sdwRings_p16 sdwRings_p17 sdwRings_p18 sdwRings_p19 sdwRings_p20 sdwRings_p21 fact22 sdwRings_p23 fact24 fact25 fact26 fact27 sdwRings_p28 sdwRings_p29 sdwRings_p30 sdwRings_p31

theorem sdwRings_named : Tryd.pinned.checked.prog.funcNamed Rows.sdwRingsRow.func = some 16 := by kernel_rfl
theorem sdwRings_instance : Tryd.f16.isInstance Tryd.pinned.checked.prog Rows.sdwRingsRow.origin Rows.sdwRingsRow.targs := of_decide_eq_true (by kernel_rfl)
theorem sdwRings_wrapper : Tryd.f16.isWrapper Tryd.pinned.checked.prog Rows.sdwRingsRow.wrapper Rows.sdwRingsRow.mainSum := by unfold Func.isWrapper; first | (rw [if_pos (by decide +kernel)]; kernel_rfl) | (rw [if_neg (by decide +kernel)]; exact ⟨rfl, rfl⟩)
theorem sdwRings_wf : Rows.sdwRingsRow.wfByText (OpenSpec.ofChange Rows.sdwRingsSpec) = true := by kernel_rfl
theorem sdwRings_goes : false = Rows.sdwRingsRow.goesBy Tryd.pinned.checked.prog := by kernel_rfl

theorem sdwRings_holds : Rows.sdwRingsRow.holds Tryd.pinned (OpenSpec.ofChange Rows.sdwRingsSpec) :=
  OpenClaim.holds_of_wide 16 Tryd.f16 rfl rfl rfl rfl rfl rfl rfl ⟨rfl, rfl, rfl, rfl, rfl⟩ rfl rfl rfl rfl rfl sdwRings_named Tryd.func16 sdwRings_joined
    sdwRings_instance sdwRings_wrapper
    (fun os started H enc _ => sdwRings_lifted os started H enc)

theorem sdwRings_card : Rows.SdwRingsCardSaid :=
  Claim7.holds_tied_plain_at .later [] [.data, .pinned] true (true, "d816627b2ae0baf26f24d7b8848545fff235d33b422c6ccc3e0906bae9e4138d") false sdwRings_holds (fun _ h => by cases h) sdwRings_wf (fun _ h => by cases h) sdwRings_row_tie rfl ⟨rfl, rfl⟩ factMain rfl
    (fun f fn hf hfn => by
      obtain rfl : f = 16 := Option.some.inj (sdwRings_named.symm.trans hf) |>.symm
      obtain rfl : fn = Tryd.f16 := (Option.some.inj (Tryd.func16.symm.trans hfn)).symm
      refine ⟨factLooks, fun j t ht => ?_⟩
      rw [Tryd.params16] at ht
      revert ht
      match j with
      | 0 => intro ht; cases ht; kernel_rfl
      | 1 => intro ht; cases ht; kernel_rfl
      | 2 => intro ht; cases ht; kernel_rfl
      | j + 3 => intro ht; simp at ht)
    sdwRings_goes
#print axioms sdwRings_card
end Go.Proofs.YtncmgiddcefpcaaDoor
