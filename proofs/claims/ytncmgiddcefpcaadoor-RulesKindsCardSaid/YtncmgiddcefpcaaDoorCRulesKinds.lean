/- RulesKinds: true, at every input; the input reads as it did. No condition. -/
import Derived.Test.YtncmgiddcefpcaaDoorLawRulesKinds
import Derived.Test.YtncmgiddcefpcaaDoorFacts
import Derived.Test.YtncmgiddcefpcaaDoorTie
import Derived.Test.YtncmgiddcefpcaaDoorCards
import Derived.Test.YtncmgiddcefpcaaDoorChecked
import Derived.ProofKit
import Derived.Lay
import Derived.LaidOnce
import Derived.SevenTiedAt
import Derived.ChangeMaps5
import Derived.Carry
import Derived.Deep.DeepHandedRow
import Derived.ChangeOld
namespace Go.Proofs.YtncmgiddcefpcaaDoor
open Go Go.Ev Go.RowKit Go.ChangeShapes Go.WideShapes Go.ChangeAt
set_option maxRecDepth 100000

theorem rulesKinds_blocks {H : Type} {enc : TypeId × Value → H} {W : World} {t : TypeId} {v : Value} {d : DataW H} {ps : List MemPlace} (h : DataW.Trod enc Tryd.prog W 0 (fun _ => true) true t v d ps) : ∀ x ∈ ps, x.block < W.heap.size := by
  obtain ⟨f, hf⟩ := h; exact DataW.trod_lt f _ _ _ hf
theorem rulesKinds_own : ownKnob Tryd.prog.godebug = none := by kernel_rfl
theorem rulesKinds_lifted (os : Os) (started : os.Started) (H : Type) (enc : TypeId × Value → H) :
    ReturnsInHanded {} Tryd.checked os 13 .any (fun w args => (Rows.rulesKindsSpec.pre enc Tryd.prog Tryd.f13 [] false w args ∧ laidMetH Tryd.prog Rows.rulesKindsRow.laid w) ∧ sizedMet enc Tryd.prog Tryd.f13 (OpenSpec.ofChange Rows.rulesKindsSpec) false w args)
      (Rows.rulesKindsSpec.post enc Tryd.prog Tryd.f13 false true false false) := by
  refine returnsInHanded_of_change_and_shaped (C := Tryd.checked) (X := fun w _ => laidMetH Tryd.prog Rows.rulesKindsRow.laid w) (fun _ _ _ hh h => h.of_heap hh) rulesKinds_own started (by kernel_rfl) Tryd.func13
    (ChangeSpec.witness_shaped (enc := enc) (C := Tryd.checked) (os := os) (X := fun w _ => laidMetH Tryd.prog Rows.rulesKindsRow.laid w) false (World.laidAll Tryd.prog os Rows.rulesKindsRow.laid) #[.agg #[.bool false, .bool false, .bool false], .int .u8 0] 8 (World.laidAll_os _ _ _)
      (World.shaped_of_ZipB (by kernel_rfl) (by kernel_rfl)) (by kernel_rfl) (by kernel_rfl) (by kernel_rfl)
      (by rw [MakeChecks.laidMetH_plain _ _ _ (by kernel_rfl)]; exact laidMet_laidAll _ (by kernel_rfl) (by kernel_rfl))) ?_
  intro W base args ds gs before hval0 hW _ _ _ hsh
  have hW' := hW
  obtain ⟨p, q, hA0, hV, rfl, _, _⟩ := hW
  have hA : DataW.TrodAll enc Tryd.prog W 0 (fun _ => true) true Tryd.f13.params.toList args.toList ds p := hA0
  rw [Tryd.params13] at hA
  obtain ⟨v0, v1, d0, d1, p0, p1, rfl, rfl, rfl, hd0, hd1⟩ := trodAll_two hA
  have o0 := hval0 0 _ _ (by rw [Tryd.params13]; rfl) rfl
  have r0 := RdT.of hd0
  have o1 := hval0 1 _ _ (by rw [Tryd.params13]; rfl) rfl
  have r1 := RdT.of hd1
  obtain ⟨rfl, rfl⟩ := trodVars_none hV
  refine (rulesKinds_law W hsh o0 r0 o1 r1).mono fun e W' ⟨he, hb⟩ => ?_
  subst he
  exact ⟨_, rfl, _, _, _, _, _, _, hW', trodAll_mk1 (shut_bool Tryd.underlying4 _), trodAll_mk2 (Below.trod (P := Tryd.prog) fact1 (by kernel_rfl) (of_decide_eq_true (by kernel_rfl)) hd0 hb (rulesKinds_blocks hd0)) (Below.trod (P := Tryd.prog) fact1 (by kernel_rfl) (of_decide_eq_true (by kernel_rfl)) hd1 hb (rulesKinds_blocks hd1)), rfl, hb.frame _, fun h => by cases h⟩

theorem rulesKinds_p0 : (Rows.rulesKindsRow.wf (OpenSpec.ofChange Rows.rulesKindsSpec)) = true := by kernel_rfl
theorem rulesKinds_p3 : (Tryd.f13.params.all (Tryd.pinned.checked.prog.readableRec ·)) = true := by kernel_rfl
theorem rulesKinds_p4 : (namedTie Tryd.pinned.checked.prog Rows.rulesKindsRow.named Rows.rulesKindsSpec.vars) = true := by kernel_rfl
theorem rulesKinds_p5 : ((Rows.rulesKindsRow.stops == [])) = true := by kernel_rfl
theorem rulesKinds_p7 : ((Rows.rulesKindsRow.knobs == [])) = true := by kernel_rfl
theorem rulesKinds_p9 : ((Rows.rulesKindsRow.inPlace == Tryd.pinned.checked.prog.inPlace 13)) = true := by kernel_rfl
theorem rulesKinds_p10 : ((Rows.rulesKindsRow.unfollowed == Tryd.pinned.checked.prog.unfollowed 13)) = true := by kernel_rfl
theorem rulesKinds_p11 : ((Rows.rulesKindsRow.recurses == Tryd.pinned.checked.prog.recurses 13)) = true := by kernel_rfl
theorem rulesKinds_p12 : ((Rows.rulesKindsRow.named == Tryd.pinned.checked.prog.varsNamed 13)) = true := by kernel_rfl
theorem rulesKinds_p13 : ((Rows.rulesKindsRow.maps == (Tryd.f13.params.toList ++ Rows.rulesKindsSpec.plain.varTypes Tryd.pinned.checked.prog).any (Tryd.pinned.checked.prog.mapsRec ·))) = true := by kernel_rfl
theorem rulesKinds_p14 : ((Rows.rulesKindsRow.ifaces == (Tryd.f13.params.toList ++ Rows.rulesKindsSpec.plain.varTypes Tryd.pinned.checked.prog).any (Tryd.pinned.checked.prog.ifacesRec ·))) = true := by kernel_rfl
theorem rulesKinds_p15 : ((Rows.rulesKindsRow.mapsOut == Tryd.pinned.checked.prog.mapsAmong Tryd.f13.resultTypes.toList)) = true := by kernel_rfl
theorem rulesKinds_p16 : ((Rows.rulesKindsRow.loops == (Tryd.f13.params.toList ++ Rows.rulesKindsSpec.plain.varTypes Tryd.pinned.checked.prog).any (Tryd.pinned.checked.prog.loopsFrom ·))) = true := by kernel_rfl
theorem rulesKinds_p17 : ((Rows.rulesKindsRow.wideKeys == (Tryd.f13.params.toList ++ Rows.rulesKindsSpec.plain.varTypes Tryd.pinned.checked.prog ++ Tryd.f13.resultTypes.toList).any (Tryd.pinned.checked.prog.wideKeysFrom ·))) = true := by kernel_rfl
theorem rulesKinds_p18 : (Rows.rulesKindsSpec.vars.all (Tryd.pinned.checked.prog.varReadable ·)) = true := by kernel_rfl
theorem rulesKinds_p19 : (Tryd.f13.resultTypes.all (fun t => Tryd.pinned.checked.prog.readableRec t && decide (t < Tryd.pinned.checked.prog.types.size))) = true := by kernel_rfl
theorem rulesKinds_p20 : ((Rows.rulesKindsRow.ifacesOut == Tryd.f13.resultTypes.toList.any (Tryd.pinned.checked.prog.ifacesRec ·))) = true := by kernel_rfl
theorem rulesKinds_p21 : ((Rows.rulesKindsRow.loopsOut == Tryd.f13.resultTypes.toList.any (Tryd.pinned.checked.prog.loopsFrom ·))) = true := by kernel_rfl
theorem rulesKinds_p23 : (Rows.rulesKindsRow.shortTexts.isNone) = true := by kernel_rfl
theorem rulesKinds_p28 : ((Rows.rulesKindsRow.kinds == (if Rows.rulesKindsRow.domain.isEmpty then [] else Tryd.f13.params.toList.map fun t => match Tryd.pinned.checked.prog.underlying t with | some (.int k) => some k | _ => none))) = true := by kernel_rfl
theorem rulesKinds_p29 : ((Rows.rulesKindsRow.pinned == Rows.rulesKindsRow.pinnedBy)) = true := by kernel_rfl
theorem rulesKinds_p30 : ((Rows.rulesKindsRow.veiled == (Tryd.f13.params.toList ++ Rows.rulesKindsSpec.plain.varTypes Tryd.pinned.checked.prog ++ Tryd.f13.resultTypes.toList).any (Tryd.pinned.checked.prog.veiledRec ·))) = true := by kernel_rfl
theorem rulesKinds_p31 : (Rows.rulesKindsRow.veiledFits Tryd.pinned.checked.prog Tryd.f13.params.toList (Tryd.f13.params.toList ++ Rows.rulesKindsSpec.plain.varTypes Tryd.pinned.checked.prog ++ Tryd.f13.resultTypes.toList)) = true := by kernel_rfl

theorem rulesKinds_joined : joinedFacts Tryd.pinned.checked.prog 13 Tryd.f13 Rows.rulesKindsSpec Rows.rulesKindsRow = true :=
  joinedFacts_mk rulesKinds_p0 fact1 fact2 rulesKinds_p3 rulesKinds_p4 rulesKinds_p5 fact6 rulesKinds_p7 fact8 rulesKinds_p9 rulesKinds_p10 rulesKinds_p11 rulesKinds_p12 rulesKinds_p13 rulesKinds_p14 rulesKinds_p15 rulesKinds_p16 rulesKinds_p17 rulesKinds_p18 rulesKinds_p19 rulesKinds_p20 rulesKinds_p21 fact22 rulesKinds_p23 fact24 fact25 fact26 fact27 rulesKinds_p28 rulesKinds_p29 rulesKinds_p30 rulesKinds_p31

theorem rulesKinds_named : Tryd.pinned.checked.prog.funcNamed Rows.rulesKindsRow.func = some 13 := by kernel_rfl
theorem rulesKinds_instance : Tryd.f13.isInstance Tryd.pinned.checked.prog Rows.rulesKindsRow.origin Rows.rulesKindsRow.targs := of_decide_eq_true (by kernel_rfl)
theorem rulesKinds_wrapper : Tryd.f13.isWrapper Tryd.pinned.checked.prog Rows.rulesKindsRow.wrapper Rows.rulesKindsRow.mainSum := by unfold Func.isWrapper; first | (rw [if_pos (by decide +kernel)]; kernel_rfl) | (rw [if_neg (by decide +kernel)]; exact ⟨rfl, rfl⟩)
theorem rulesKinds_wf : Rows.rulesKindsRow.wfByText (OpenSpec.ofChange Rows.rulesKindsSpec) = true := by kernel_rfl
theorem rulesKinds_goes : false = Rows.rulesKindsRow.goesBy Tryd.pinned.checked.prog := by kernel_rfl

theorem rulesKinds_holds : Rows.rulesKindsRow.holds Tryd.pinned (OpenSpec.ofChange Rows.rulesKindsSpec) :=
  OpenClaim.holds_of_wide 13 Tryd.f13 rfl rfl rfl rfl rfl rfl rfl ⟨rfl, rfl, rfl, rfl, rfl⟩ rfl rfl rfl rfl rfl rulesKinds_named Tryd.func13 rulesKinds_joined
    rulesKinds_instance rulesKinds_wrapper
    (fun os started H enc _ => rulesKinds_lifted os started H enc)

theorem rulesKinds_card : Rows.RulesKindsCardSaid :=
  Claim7.holds_tied_plain_at .later [] [.data, .pinned] true (true, "d816627b2ae0baf26f24d7b8848545fff235d33b422c6ccc3e0906bae9e4138d") false rulesKinds_holds (fun _ h => by cases h) rulesKinds_wf (fun _ h => by cases h) rulesKinds_row_tie rfl ⟨rfl, rfl⟩ factMain rfl
    (fun f fn hf hfn => by
      obtain rfl : f = 13 := Option.some.inj (rulesKinds_named.symm.trans hf) |>.symm
      obtain rfl : fn = Tryd.f13 := (Option.some.inj (Tryd.func13.symm.trans hfn)).symm
      refine ⟨factLooks, fun j t ht => ?_⟩
      rw [Tryd.params13] at ht
      revert ht
      match j with
      | 0 => intro ht; cases ht; kernel_rfl
      | 1 => intro ht; cases ht; kernel_rfl
      | j + 2 => intro ht; simp at ht)
    rulesKinds_goes
#print axioms rulesKinds_card
end Go.Proofs.YtncmgiddcefpcaaDoor
