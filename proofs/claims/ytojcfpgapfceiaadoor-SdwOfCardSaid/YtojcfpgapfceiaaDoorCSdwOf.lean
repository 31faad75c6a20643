/- SdwOf: true, at every input; the input reads as it did. No condition. -/
import Derived.Test.YtojcfpgapfceiaaDoorLawSdwOf
import Derived.Test.YtojcfpgapfceiaaDoorFacts
import Derived.Test.YtojcfpgapfceiaaDoorTie
import Derived.Test.YtojcfpgapfceiaaDoorCards
import Derived.Test.YtojcfpgapfceiaaDoorChecked
import Derived.ProofKit
import Derived.Lay
import Derived.LaidOnce
import Derived.SevenTiedAt
import Derived.ChangeMaps5
import Derived.Carry
import Derived.Deep.DeepHandedRow
import Derived.ChangeOld
namespace Go.Proofs.YtojcfpgapfceiaaDoor
open Go Go.Ev Go.RowKit Go.ChangeShapes Go.WideShapes Go.ChangeAt
set_option maxRecDepth 100000

theorem sdwOf_blocks {H : Type} {enc : TypeId × Value → H} {W : World} {t : TypeId} {v : Value} {d : DataW H} {ps : List MemPlace} (h : DataW.Trod enc Tryd.prog W 0 (fun _ => true) true t v d ps) : ∀ x ∈ ps, x.block < W.heap.size := by
  obtain ⟨f, hf⟩ := h; exact DataW.trod_lt f _ _ _ hf
theorem sdwOf_own : ownKnob Tryd.prog.godebug = none := by kernel_rfl
theorem sdwOf_lifted (os : Os) (started : os.Started) (H : Type) (enc : TypeId × Value → H) :
    ReturnsInHanded {} Tryd.checked os 3 .any (fun w args => (Rows.sdwOfSpec.pre enc Tryd.prog Tryd.f3 [] false w args ∧ laidMetH Tryd.prog Rows.sdwOfRow.laid w) ∧ sizedMet enc Tryd.prog Tryd.f3 (OpenSpec.ofChange Rows.sdwOfSpec) false w args)
      (Rows.sdwOfSpec.post enc Tryd.prog Tryd.f3 false true false false) := by
  refine returnsInHanded_of_change_and_shaped (C := Tryd.checked) (X := fun w _ => laidMetH Tryd.prog Rows.sdwOfRow.laid w) (fun _ _ _ hh h => h.of_heap hh) sdwOf_own started (by kernel_rfl) Tryd.func3
    (ChangeSpec.witness_shaped (enc := enc) (C := Tryd.checked) (os := os) (X := fun w _ => laidMetH Tryd.prog Rows.sdwOfRow.laid w) false (World.laidAll Tryd.prog os Rows.sdwOfRow.laid) #[.agg #[.int .i64 0, .int .i64 0, .int .i64 0, .string ⟨#[]⟩, .bool false, .slice none 0 0, .int .i64 0, .int .i64 0, .int .i64 0, .int .i64 0], .int .u8 0, .agg #[.int .i64 0, .int .i64 0, .int .i64 0]] 8 (World.laidAll_os _ _ _)
      (World.shaped_of_ZipB (by kernel_rfl) (by kernel_rfl)) (by kernel_rfl) (by kernel_rfl) (by kernel_rfl)
      (by rw [MakeChecks.laidMetH_plain _ _ _ (by kernel_rfl)]; exact laidMet_laidAll _ (by kernel_rfl) (by kernel_rfl))) ?_
  intro W base args ds gs before hval0 hW _ _ _ hsh
  have hW' := hW
  obtain ⟨p, q, hA0, hV, rfl, _, _⟩ := hW
  have hA : DataW.TrodAll enc Tryd.prog W 0 (fun _ => true) true Tryd.f3.params.toList args.toList ds p := hA0
  rw [Tryd.params3] at hA
  obtain ⟨v0, v1, v2, d0, d1, d2, p0, p1, p2, rfl, rfl, rfl, hd0, hd1, hd2⟩ := trodAll_three hA
  have o0 := hval0 0 _ _ (by rw [Tryd.params3]; rfl) rfl
  have r0 := RdT.of hd0
  have o1 := hval0 1 _ _ (by rw [Tryd.params3]; rfl) rfl
  have r1 := RdT.of hd1
  have o2 := hval0 2 _ _ (by rw [Tryd.params3]; rfl) rfl
  have r2 := RdT.of hd2
  obtain ⟨rfl, rfl⟩ := trodVars_none hV
  refine (sdwOf_law W hsh o0 r0 o1 r1 o2 r2).mono fun e W' ⟨he, hb⟩ => ?_
  subst he
  exact ⟨_, rfl, _, _, _, _, _, _, hW', trodAll_mk1 (shut_bool Tryd.underlying4 _), trodAll_mk3 (Below.trod (P := Tryd.prog) fact1 (by kernel_rfl) (of_decide_eq_true (by kernel_rfl)) hd0 hb (sdwOf_blocks hd0)) (Below.trod (P := Tryd.prog) fact1 (by kernel_rfl) (of_decide_eq_true (by kernel_rfl)) hd1 hb (sdwOf_blocks hd1)) (Below.trod (P := Tryd.prog) fact1 (by kernel_rfl) (of_decide_eq_true (by kernel_rfl)) hd2 hb (sdwOf_blocks hd2)), rfl, hb.frame _, fun h => by cases h⟩

theorem sdwOf_p0 : (Rows.sdwOfRow.wf (OpenSpec.ofChange Rows.sdwOfSpec)) = true := by kernel_rfl
theorem sdwOf_p3 : (Tryd.f3.params.all (Tryd.pinned.checked.prog.readableRec ·)) = true := by kernel_rfl
theorem sdwOf_p4 : (namedTie Tryd.pinned.checked.prog Rows.sdwOfRow.named Rows.sdwOfSpec.vars) = true := by kernel_rfl
theorem sdwOf_p5 : ((Rows.sdwOfRow.stops == [])) = true := by kernel_rfl
theorem sdwOf_p7 : ((Rows.sdwOfRow.knobs == [])) = true := by kernel_rfl
theorem sdwOf_p9 : ((Rows.sdwOfRow.inPlace == Tryd.pinned.checked.prog.inPlace 3)) = true := by kernel_rfl
theorem sdwOf_p10 : ((Rows.sdwOfRow.unfollowed == Tryd.pinned.checked.prog.unfollowed 3)) = true := by kernel_rfl
theorem sdwOf_p11 : ((Rows.sdwOfRow.recurses == Tryd.pinned.checked.prog.recurses 3)) = true := by kernel_rfl
theorem sdwOf_p12 : ((Rows.sdwOfRow.named == Tryd.pinned.checked.prog.varsNamed 3)) = true := by kernel_rfl
theorem sdwOf_p13 : ((Rows.sdwOfRow.maps == (Tryd.f3.params.toList ++ Rows.sdwOfSpec.plain.varTypes Tryd.pinned.checked.prog).any (Tryd.pinned.checked.prog.mapsRec ·))) = true := by kernel_rfl
theorem sdwOf_p14 : ((Rows.sdwOfRow.ifaces == (Tryd.f3.params.toList ++ Rows.sdwOfSpec.plain.varTypes Tryd.pinned.checked.prog).any (Tryd.pinned.checked.prog.ifacesRec ·))) = true := by kernel_rfl
theorem sdwOf_p15 : ((Rows.sdwOfRow.mapsOut == Tryd.pinned.checked.prog.mapsAmong Tryd.f3.resultTypes.toList)) = true := by kernel_rfl
theorem sdwOf_p16 : ((Rows.sdwOfRow.loops == (Tryd.f3.params.toList ++ Rows.sdwOfSpec.plain.varTypes Tryd.pinned.checked.prog).any (Tryd.pinned.checked.prog.loopsFrom ·))) = true := by kernel_rfl
theorem sdwOf_p17 : ((Rows.sdwOfRow.wideKeys == (Tryd.f3.params.toList ++ Rows.sdwOfSpec.plain.varTypes Tryd.pinned.checked.prog ++ Tryd.f3.resultTypes.toList).any (Tryd.pinned.checked.prog.wideKeysFrom ·))) = true := by kernel_rfl
theorem sdwOf_p18 : (Rows.sdwOfSpec.vars.all (Tryd.pinned.checked.prog.varReadable ·)) = true := by kernel_rfl
theorem sdwOf_p19 : (Tryd.f3.resultTypes.all (fun t => Tryd.pinned.checked.prog.readableRec t && decide (t < Tryd.pinned.checked.prog.types.size))) = true := by kernel_rfl
theorem sdwOf_p20 : ((Rows.sdwOfRow.ifacesOut == Tryd.f3.resultTypes.toList.any (Tryd.pinned.checked.prog.ifacesRec ·))) = true := by kernel_rfl
theorem sdwOf_p21 : ((Rows.sdwOfRow.loopsOut == Tryd.f3.resultTypes.toList.any (Tryd.pinned.checked.prog.loopsFrom ·))) = true := by kernel_rfl
theorem sdwOf_p23 : (Rows.sdwOfRow.shortTexts.isNone) = true := by kernel_rfl
theorem sdwOf_p28 : ((Rows.sdwOfRow.kinds == (if Rows.sdwOfRow.domain.isEmpty then [] else Tryd.f3.params.toList.map fun t => match Tryd.pinned.checked.prog.underlying t with | some (.int k) => some k | _ => none))) = true := by kernel_rfl
theorem sdwOf_p29 : ((Rows.sdwOfRow.pinned == Rows.sdwOfRow.pinnedBy)) = true := by kernel_rfl
theorem sdwOf_p30 : ((Rows.sdwOfRow.veiled == (Tryd.f3.params.toList ++ Rows.sdwOfSpec.plain.varTypes Tryd.pinned.checked.prog ++ Tryd.f3.resultTypes.toList).any (Tryd.pinned.checked.prog.veiledRec ·))) = true := by kernel_rfl
theorem sdwOf_p31 : (Rows.sdwOfRow.veiledFits Tryd.pinned.checked.prog Tryd.f3.params.toList (Tryd.f3.params.toList ++ Rows.sdwOfSpec.plain.varTypes Tryd.pinned.checked.prog ++ Tryd.f3.resultTypes.toList)) = true := by kernel_rfl

theorem sdwOf_joined : joinedFacts Tryd.pinned.checked.prog 3 Tryd.f3 Rows.sdwOfSpec Rows.sdwOfRow = true :=
  joinedFacts_mk sdwOf_p0 fact1 fact2 sdwOf_p3 sdwOf_p4 sdwOf_p5 fact6 sdwOf_p7 fact8 sdwOf_p9 sdwOf_p10 sdwOf_p11 sdwOf_p12 sdwOf_p13 sdwOf_p14 sdwOf_p15 sdwOf_p16 sdwOf_p17 sdwOf_p18 sdwOf_p19 sdwOf_p20 sdwOf_p21 fact22 sdwOf_p23 fact24 fact25 fact26 fact27 sdwOf_p28 sdwOf_p29 sdwOf_p30 sdwOf_p31

theorem sdwOf_named : Tryd.pinned.checked.prog.funcNamed Rows.sdwOfRow.func = some 3 := by kernel_rfl
theorem sdwOf_instance : Tryd.f3.isInstance Tryd.pinned.checked.prog Rows.sdwOfRow.origin Rows.sdwOfRow.targs := of_decide_eq_true (by kernel_rfl)
theorem sdwOf_wrapper : Tryd.f3.isWrapper Tryd.pinned.checked.prog Rows.sdwOfRow.wrapper Rows.sdwOfRow.mainSum := by unfold Func.isWrapper; first | (rw [if_pos (by decide +kernel)]; kernel_rfl) | (rw [if_neg (by decide +kernel)]; exact ⟨rfl, rfl⟩)
theorem sdwOf_wf : Rows.sdwOfRow.wfByText (OpenSpec.ofChange Rows.sdwOfSpec) = true := by kernel_rfl
theorem sdwOf_goes : false = Rows.sdwOfRow.goesBy Tryd.pinned.checked.prog := by kernel_rfl

theorem sdwOf_holds : Rows.sdwOfRow.holds Tryd.pinned (OpenSpec.ofChange Rows.sdwOfSpec) :=
  OpenClaim.holds_of_wide 3 Tryd.f3 rfl rfl rfl rfl rfl rfl rfl ⟨rfl, rfl, rfl, rfl, rfl⟩ rfl rfl rfl rfl rfl sdwOf_named Tryd.func3 sdwOf_joined
    sdwOf_instance sdwOf_wrapper
    (fun os started H enc _ => sdwOf_lifted os started H enc)

theorem sdwOf_card : Rows.SdwOfCardSaid :=
  Claim7.holds_tied_plain_at .later [] [.data, .pinned] true (true, "c3c0362a352168c21ac3cd4e849fcd462d2e830e9c464cf65bf48cbd0fd8f7aa") false sdwOf_holds (fun _ h => by cases h) sdwOf_wf (fun _ h => by cases h) sdwOf_row_tie rfl ⟨rfl, rfl⟩ factMain rfl
    (fun f fn hf hfn => by
      obtain rfl : f = 3 := Option.some.inj (sdwOf_named.symm.trans hf) |>.symm
      obtain rfl : fn = Tryd.f3 := (Option.some.inj (Tryd.func3.symm.trans hfn)).symm
      refine ⟨factLooks, fun j t ht => ?_⟩
      rw [Tryd.params3] at ht
      revert ht
      match j with
      | 0 => intro ht; cases ht; kernel_rfl
      | 1 => intro ht; cases ht; kernel_rfl
      | 2 => intro ht; cases ht; kernel_rfl
      | j + 3 => intro ht; simp at ht)
    sdwOf_goes
#print axioms sdwOf_card
end Go.Proofs.YtojcfpgapfceiaaDoor
