/- RulesFind: true, at every input; the input reads as it did. No condition. -/
import Derived.Test.YtncmgiddcefpcaaGreatDoorBin14
import Derived.Test.YtncmgiddcefpcaaGreatDoorTie
import Derived.Test.YtncmgiddcefpcaaGreatDoorCards
import Derived.Test.YtncmgiddcefpcaaGreatDoorChecked
import Derived.ProofKit
import Derived.Lay
import Derived.LaidOnce
import Derived.SevenTiedAt
import Derived.ChangeMaps5
import Derived.Carry
import Derived.Deep.DeepHandedRow
import Derived.ChangeOld
namespace Go.Proofs.YtncmgiddcefpcaaGreatDoor
open Go Go.Ev Go.RowKit Go.ChangeShapes Go.WideShapes Go.ChangeAt
set_option maxRecDepth 100000

theorem rulesFind_blocks {H : Type} {enc : TypeId × Value → H} {W : World} {t : TypeId} {v : Value} {d : DataW H} {ps : List MemPlace} (h : DataW.Trod enc Tryz.prog W 0 (fun _ => true) true t v d ps) : ∀ x ∈ ps, x.block < W.heap.size := by
  obtain ⟨f, hf⟩ := h; exact DataW.trod_lt f _ _ _ hf
theorem rulesFind_own : ownKnob Tryz.prog.godebug = none := by kernel_rfl
theorem rulesFind_lifted (os : Os) (started : os.Started) (H : Type) (enc : TypeId × Value → H) :
    ReturnsInHanded {} Tryz.checked os 9 .any (fun w args => (Rows.rulesFindSpec.pre enc Tryz.prog Tryz.f9 [] false w args ∧ laidMetH Tryz.prog Rows.rulesFindRow.laid w) ∧ sizedMet enc Tryz.prog Tryz.f9 (OpenSpec.ofChange Rows.rulesFindSpec) false w args)
      (Rows.rulesFindSpec.post enc Tryz.prog Tryz.f9 false true false false) := by
  refine returnsInHanded_of_change_and_shaped (C := Tryz.checked) (X := fun w _ => laidMetH Tryz.prog Rows.rulesFindRow.laid w) (fun _ _ _ hh h => h.of_heap hh) rulesFind_own started (by kernel_rfl) Tryz.func9
    (ChangeSpec.witness_shaped (enc := enc) (C := Tryz.checked) (os := os) (X := fun w _ => laidMetH Tryz.prog Rows.rulesFindRow.laid w) false (World.laidAll Tryz.prog os Rows.rulesFindRow.laid) #[Value.slice none 0 0, Value.slice none 0 0, Value.slice none 0 0] 8 (World.laidAll_os _ _ _)
      (World.shaped_of_ZipB (by kernel_rfl) (by kernel_rfl)) (by kernel_rfl) (by kernel_rfl) (by kernel_rfl)
      (by rw [MakeChecks.laidMetH_plain _ _ _ (by kernel_rfl)]; exact laidMet_laidAll _ (by kernel_rfl) (by kernel_rfl))) ?_
  intro W base args ds gs before hval0 hW _ _ _ hsh
  have hW' := hW
  obtain ⟨p, q, hA0, hV, rfl, _, _⟩ := hW
  have hA : DataW.TrodAll enc Tryz.prog W 0 (fun _ => true) true Tryz.f9.params.toList args.toList ds p := hA0
  rw [Tryz.params9] at hA
  obtain ⟨v0, v1, v2, d0, d1, d2, p0, p1, p2, rfl, rfl, rfl, hd0, hd1, hd2⟩ := trodAll_three hA
  have o0 := hval0 0 _ _ (by rw [Tryz.params9]; rfl) rfl
  have r0 := RdT.of hd0
  have o1 := hval0 1 _ _ (by rw [Tryz.params9]; rfl) rfl
  have r1 := RdT.of hd1
  have o2 := hval0 2 _ _ (by rw [Tryz.params9]; rfl) rfl
  have r2 := RdT.of hd2
  obtain ⟨rfl, rfl⟩ := trodVars_none hV
  refine (rulesFind_law W hsh o0 r0 o1 r1 o2 r2).mono fun e W' ⟨he, hb⟩ => ?_
  subst he
  exact ⟨_, rfl, _, _, _, _, _, _, hW', trodAll_mk1 (shut_bool Tryz.underlying4 _), trodAll_mk3 (Below.trod (P := Tryz.prog) fact1 (by kernel_rfl) (of_decide_eq_true (by kernel_rfl)) hd0 hb (rulesFind_blocks hd0)) (Below.trod (P := Tryz.prog) fact1 (by kernel_rfl) (of_decide_eq_true (by kernel_rfl)) hd1 hb (rulesFind_blocks hd1)) (Below.trod (P := Tryz.prog) fact1 (by kernel_rfl) (of_decide_eq_true (by kernel_rfl)) hd2 hb (rulesFind_blocks hd2)), rfl, hb.frame _, fun h => by cases h⟩

theorem rulesFind_p0 : (Rows.rulesFindRow.wf (OpenSpec.ofChange Rows.rulesFindSpec)) = true := by kernel_rfl
theorem rulesFind_p3 : (Tryz.f9.params.all (Tryz.pinned.checked.prog.readableRec ·)) = true := by kernel_rfl
theorem rulesFind_p4 : (namedTie Tryz.pinned.checked.prog Rows.rulesFindRow.named Rows.rulesFindSpec.vars) = true := by kernel_rfl
theorem rulesFind_p5 : ((Rows.rulesFindRow.stops == [])) = true := by kernel_rfl
theorem rulesFind_p7 : ((Rows.rulesFindRow.knobs == [])) = true := by kernel_rfl
theorem rulesFind_p9 : ((Rows.rulesFindRow.inPlace == Tryz.pinned.checked.prog.inPlace 9)) = true := by kernel_rfl
theorem rulesFind_p10 : ((Rows.rulesFindRow.unfollowed == Tryz.pinned.checked.prog.unfollowed 9)) = true := by kernel_rfl
theorem rulesFind_p11 : ((Rows.rulesFindRow.recurses == Tryz.pinned.checked.prog.recurses 9)) = true := by kernel_rfl
theorem rulesFind_p12 : ((Rows.rulesFindRow.named == Tryz.pinned.checked.prog.varsNamed 9)) = true := by kernel_rfl
theorem rulesFind_p13 : ((Rows.rulesFindRow.maps == (Tryz.f9.params.toList ++ Rows.rulesFindSpec.plain.varTypes Tryz.pinned.checked.prog).any (Tryz.pinned.checked.prog.mapsRec ·))) = true := by kernel_rfl
theorem rulesFind_p14 : ((Rows.rulesFindRow.ifaces == (Tryz.f9.params.toList ++ Rows.rulesFindSpec.plain.varTypes Tryz.pinned.checked.prog).any (Tryz.pinned.checked.prog.ifacesRec ·))) = true := by kernel_rfl
theorem rulesFind_p15 : ((Rows.rulesFindRow.mapsOut == Tryz.pinned.checked.prog.mapsAmong Tryz.f9.resultTypes.toList)) = true := by kernel_rfl
theorem rulesFind_p16 : ((Rows.rulesFindRow.loops == (Tryz.f9.params.toList ++ Rows.rulesFindSpec.plain.varTypes Tryz.pinned.checked.prog).any (Tryz.pinned.checked.prog.loopsFrom ·))) = true := by kernel_rfl
theorem rulesFind_p17 : ((Rows.rulesFindRow.wideKeys == (Tryz.f9.params.toList ++ Rows.rulesFindSpec.plain.varTypes Tryz.pinned.checked.prog ++ Tryz.f9.resultTypes.toList).any (Tryz.pinned.checked.prog.wideKeysFrom ·))) = true := by kernel_rfl
theorem rulesFind_p18 : (Rows.rulesFindSpec.vars.all (Tryz.pinned.checked.prog.varReadable ·)) = true := by kernel_rfl
theorem rulesFind_p19 : (Tryz.f9.resultTypes.all (fun t => Tryz.pinned.checked.prog.readableRec t && decide (t < Tryz.pinned.checked.prog.types.size))) = true := by kernel_rfl
theorem rulesFind_p20 : ((Rows.rulesFindRow.ifacesOut == Tryz.f9.resultTypes.toList.any (Tryz.pinned.checked.prog.ifacesRec ·))) = true := by kernel_rfl
theorem rulesFind_p21 : ((Rows.rulesFindRow.loopsOut == Tryz.f9.resultTypes.toList.any (Tryz.pinned.checked.prog.loopsFrom ·))) = true := by kernel_rfl
theorem rulesFind_p23 : (Rows.rulesFindRow.shortTexts.isNone) = true := by kernel_rfl
theorem rulesFind_p28 : ((Rows.rulesFindRow.kinds == (if Rows.rulesFindRow.domain.isEmpty then [] else Tryz.f9.params.toList.map fun t => match Tryz.pinned.checked.prog.underlying t with | some (.int k) => some k | _ => none))) = true := by kernel_rfl
theorem rulesFind_p29 : ((Rows.rulesFindRow.pinned == Rows.rulesFindRow.pinnedBy)) = true := by kernel_rfl
theorem rulesFind_p30 : ((Rows.rulesFindRow.veiled == (Tryz.f9.params.toList ++ Rows.rulesFindSpec.plain.varTypes Tryz.pinned.checked.prog ++ Tryz.f9.resultTypes.toList).any (Tryz.pinned.checked.prog.veiledRec ·))) = true := by kernel_rfl
theorem rulesFind_p31 : (Rows.rulesFindRow.veiledFits Tryz.pinned.checked.prog Tryz.f9.params.toList (Tryz.f9.params.toList ++ Rows.rulesFindSpec.plain.varTypes Tryz.pinned.checked.prog ++ Tryz.f9.resultTypes.toList)) = true := by kernel_rfl

theorem rulesFind_joined : joinedFacts Tryz.pinned.checked.prog 9 Tryz.f9 Rows.rulesFindSpec Rows.rulesFindRow = true :=
  joinedFacts_mk rulesFind_p0 fact1 fact2 rulesFind_p3 rulesFind_p4 rulesFind_p5 fact6 rulesFind_p7 fact8 rulesFind_p9 rulesFind_p10 rulesFind_p11 rulesFind_p12 rulesFind_p13 rulesFind_p14 rulesFind_p15 rulesFind_p16 rulesFind_p17 rulesFind_p18 rulesFind_p19 rulesFind_p20 rulesFind_p21 fact22 rulesFind_p23 fact24 fact25 fact26 fact27 rulesFind_p28 rulesFind_p29 rulesFind_p30 rulesFind_p31

theorem rulesFind_named : Tryz.pinned.checked.prog.funcNamed Rows.rulesFindRow.func = some 9 := by kernel_rfl
theorem rulesFind_instance : Tryz.f9.isInstance Tryz.pinned.checked.prog Rows.rulesFindRow.origin Rows.rulesFindRow.targs := of_decide_eq_true (by kernel_rfl)
theorem rulesFind_wrapper : Tryz.f9.isWrapper Tryz.pinned.checked.prog Rows.rulesFindRow.wrapper Rows.rulesFindRow.mainSum := by unfold Func.isWrapper; first | (rw [if_pos (by decide +kernel)]; kernel_rfl) | (rw [if_neg (by decide +kernel)]; exact ⟨rfl, rfl⟩)
theorem rulesFind_wf : Rows.rulesFindRow.wfByText (OpenSpec.ofChange Rows.rulesFindSpec) = true := by kernel_rfl
theorem rulesFind_goes : false = Rows.rulesFindRow.goesBy Tryz.pinned.checked.prog := by kernel_rfl

theorem rulesFind_holds : Rows.rulesFindRow.holds Tryz.pinned (OpenSpec.ofChange Rows.rulesFindSpec) :=
  OpenClaim.holds_of_wide 9 Tryz.f9 rfl rfl rfl rfl rfl rfl rfl ⟨rfl, rfl, rfl, rfl, rfl⟩ rfl rfl rfl rfl rfl rulesFind_named Tryz.func9 rulesFind_joined
    rulesFind_instance rulesFind_wrapper
    (fun os started H enc _ => rulesFind_lifted os started H enc)

theorem rulesFind_card : Rows.RulesFindCardSaid :=
  Claim7.holds_tied_plain_at .later [] [.data, .pinned] true (true, "e273f5272d88c497d37e9d766c9a4909ddf1804e3d7dd54ce4e691371479e93c") false rulesFind_holds (fun _ h => by cases h) rulesFind_wf (fun _ h => by cases h) rulesFind_row_tie rfl ⟨rfl, rfl⟩ factMain rfl
    (fun f fn hf hfn => by
      obtain rfl : f = 9 := Option.some.inj (rulesFind_named.symm.trans hf) |>.symm
      obtain rfl : fn = Tryz.f9 := (Option.some.inj (Tryz.func9.symm.trans hfn)).symm
      refine ⟨factLooks, fun j t ht => ?_⟩
      rw [Tryz.params9] at ht
      revert ht
      match j with
      | 0 => intro ht; cases ht; kernel_rfl
      | 1 => intro ht; cases ht; kernel_rfl
      | 2 => intro ht; cases ht; kernel_rfl
      | j + 3 => intro ht; simp at ht)
    rulesFind_goes
#print axioms rulesFind_card
end Go.Proofs.YtncmgiddcefpcaaGreatDoor
