/- RulesFirst: true, at every input; the input reads as it did. No condition. -/
import Derived.Test.YtncmgiddcefpcaaGreatDoorBin13
import Derived.Test.YtncmgiddcefpcaaGreatDoorTie
import Derived.Test.YtncmgiddcefpcaaGreatDoorCards
import Derived.Test.YtncmgiddcefpcaaGreatDoorChecked
import Derived.ProofKit
import Derived.Lay
import Derived.LaidOnce
import Derived.SevenTiedAt
import Derived.ChangeMaps5
import Derived.Carry
import Derived.Deep.DeepHandedRow
import Derived.ChangeOld
namespace Go.Proofs.YtncmgiddcefpcaaGreatDoor
open Go Go.Ev Go.RowKit Go.ChangeShapes Go.WideShapes Go.ChangeAt
set_option maxRecDepth 100000

theorem rulesFirst_blocks {H : Type} {enc : TypeId × Value → H} {W : World} {t : TypeId} {v : Value} {d : DataW H} {ps : List MemPlace} (h : DataW.Trod enc Tryz.prog W 0 (fun _ => true) true t v d ps) : ∀ x ∈ ps, x.block < W.heap.size := by
  obtain ⟨f, hf⟩ := h; exact DataW.trod_lt f _ _ _ hf
theorem rulesFirst_own : ownKnob Tryz.prog.godebug = none := by kernel_rfl
theorem rulesFirst_lifted (os : Os) (started : os.Started) (H : Type) (enc : TypeId × Value → H) :
    ReturnsInHanded {} Tryz.checked os 10 .any (fun w args => (Rows.rulesFirstSpec.pre enc Tryz.prog Tryz.f10 [] false w args ∧ laidMetH Tryz.prog Rows.rulesFirstRow.laid w) ∧ sizedMet enc Tryz.prog Tryz.f10 (OpenSpec.ofChange Rows.rulesFirstSpec) false w args)
      (Rows.rulesFirstSpec.post enc Tryz.prog Tryz.f10 false true false false) := by
  refine returnsInHanded_of_change_and_shaped (C := Tryz.checked) (X := fun w _ => laidMetH Tryz.prog Rows.rulesFirstRow.laid w) (fun _ _ _ hh h => h.of_heap hh) rulesFirst_own started (by kernel_rfl) Tryz.func10
    (ChangeSpec.witness_shaped (enc := enc) (C := Tryz.checked) (os := os) (X := fun w _ => laidMetH Tryz.prog Rows.rulesFirstRow.laid w) false (World.laidAll Tryz.prog os Rows.rulesFirstRow.laid) #[Value.slice none 0 0, Value.slice none 0 0, Value.slice none 0 0] 8 (World.laidAll_os _ _ _)
      (World.shaped_of_ZipB (by kernel_rfl) (by kernel_rfl)) (by kernel_rfl) (by kernel_rfl) (by kernel_rfl)
      (by rw [MakeChecks.laidMetH_plain _ _ _ (by kernel_rfl)]; exact laidMet_laidAll _ (by kernel_rfl) (by kernel_rfl))) ?_
  intro W base args ds gs before hval0 hW _ _ _ hsh
  have hW' := hW
  obtain ⟨p, q, hA0, hV, rfl, _, _⟩ := hW
  have hA : DataW.TrodAll enc Tryz.prog W 0 (fun _ => true) true Tryz.f10.params.toList args.toList ds p := hA0
  rw [Tryz.params10] at hA
  obtain ⟨v0, v1, v2, d0, d1, d2, p0, p1, p2, rfl, rfl, rfl, hd0, hd1, hd2⟩ := trodAll_three hA
  have o0 := hval0 0 _ _ (by rw [Tryz.params10]; rfl) rfl
  have r0 := RdT.of hd0
  have o1 := hval0 1 _ _ (by rw [Tryz.params10]; rfl) rfl
  have r1 := RdT.of hd1
  have o2 := hval0 2 _ _ (by rw [Tryz.params10]; rfl) rfl
  have r2 := RdT.of hd2
  obtain ⟨rfl, rfl⟩ := trodVars_none hV
  refine (rulesFirst_law W hsh o0 r0 o1 r1 o2 r2).mono fun e W' ⟨he, hb⟩ => ?_
  subst he
  exact ⟨_, rfl, _, _, _, _, _, _, hW', trodAll_mk1 (shut_bool Tryz.underlying4 _), trodAll_mk3 (Below.trod (P := Tryz.prog) fact1 (by kernel_rfl) (of_decide_eq_true (by kernel_rfl)) hd0 hb (rulesFirst_blocks hd0)) (Below.trod (P := Tryz.prog) fact1 (by kernel_rfl) (of_decide_eq_true (by kernel_rfl)) hd1 hb (rulesFirst_blocks hd1)) (Below.trod (P := Tryz.prog) fact1 (by kernel_rfl) (of_decide_eq_true (by kernel_rfl)) hd2 hb (rulesFirst_blocks hd2)), rfl, hb.frame _, fun h => by cases h⟩

theorem rulesFirst_p0 : (Rows.rulesFirstRow.wf (OpenSpec.ofChange Rows.rulesFirstSpec)) = true := by kernel_rfl
theorem rulesFirst_p3 : (Tryz.f10.params.all (Tryz.pinned.checked.prog.readableRec ·)) = true := by kernel_rfl
theorem rulesFirst_p4 : (namedTie Tryz.pinned.checked.prog Rows.rulesFirstRow.named Rows.rulesFirstSpec.vars) = true := by kernel_rfl
theorem rulesFirst_p5 : ((Rows.rulesFirstRow.stops == [])) = true := by kernel_rfl
theorem rulesFirst_p7 : ((Rows.rulesFirstRow.knobs == [])) = true := by kernel_rfl
theorem rulesFirst_p9 : ((Rows.rulesFirstRow.inPlace == Tryz.pinned.checked.prog.inPlace 10)) = true := by kernel_rfl
theorem rulesFirst_p10 : ((Rows.rulesFirstRow.unfollowed == Tryz.pinned.checked.prog.unfollowed 10)) = true := by kernel_rfl
theorem rulesFirst_p11 : ((Rows.rulesFirstRow.recurses == Tryz.pinned.checked.prog.recurses 10)) = true := by kernel_rfl
theorem rulesFirst_p12 : ((Rows.rulesFirstRow.named == Tryz.pinned.checked.prog.varsNamed 10)) = true := by kernel_rfl
theorem rulesFirst_p13 : ((Rows.rulesFirstRow.maps == (Tryz.f10.params.toList ++ Rows.rulesFirstSpec.plain.varTypes Tryz.pinned.checked.prog).any (Tryz.pinned.checked.prog.mapsRec ·))) = true := by kernel_rfl
theorem rulesFirst_p14 : ((Rows.rulesFirstRow.ifaces == (Tryz.f10.params.toList ++ Rows.rulesFirstSpec.plain.varTypes Tryz.pinned.checked.prog).any (Tryz.pinned.checked.prog.ifacesRec ·))) = true := by kernel_rfl
theorem rulesFirst_p15 : ((Rows.rulesFirstRow.mapsOut == Tryz.pinned.checked.prog.mapsAmong Tryz.f10.resultTypes.toList)) = true := by kernel_rfl
theorem rulesFirst_p16 : ((Rows.rulesFirstRow.loops == (Tryz.f10.params.toList ++ Rows.rulesFirstSpec.plain.varTypes Tryz.pinned.checked.prog).any (Tryz.pinned.checked.prog.loopsFrom ·))) = true := by kernel_rfl
theorem rulesFirst_p17 : ((Rows.rulesFirstRow.wideKeys == (Tryz.f10.params.toList ++ Rows.rulesFirstSpec.plain.varTypes Tryz.pinned.checked.prog ++ Tryz.f10.resultTypes.toList).any (Tryz.pinned.checked.prog.wideKeysFrom ·))) = true := by kernel_rfl
theorem rulesFirst_p18 : (Rows.rulesFirstSpec.vars.all (Tryz.pinned.checked.prog.varReadable ·)) = true := by kernel_rfl
theorem rulesFirst_p19 : (Tryz.f10.resultTypes.all (fun t => Tryz.pinned.checked.prog.readableRec t && decide (t < Tryz.pinned.checked.prog.types.size))) = true := by kernel_rfl
theorem rulesFirst_p20 : ((Rows.rulesFirstRow.ifacesOut == Tryz.f10.resultTypes.toList.any (Tryz.pinned.checked.prog.ifacesRec ·))) = true := by kernel_rfl
theorem rulesFirst_p21 : ((Rows.rulesFirstRow.loopsOut == Tryz.f10.resultTypes.toList.any (Tryz.pinned.checked.prog.loopsFrom ·))) = true := by kernel_rfl
theorem rulesFirst_p23 : (Rows.rulesFirstRow.shortTexts.isNone) = true := by kernel_rfl
theorem rulesFirst_p28 : ((Rows.rulesFirstRow.kinds == (if Rows.rulesFirstRow.domain.isEmpty then [] else Tryz.f10.params.toList.map fun t => match Tryz.pinned.checked.prog.underlying t with | some (.int k) => some k | _ => none))) = true := by kernel_rfl
theorem rulesFirst_p29 : ((Rows.rulesFirstRow.pinned == Rows.rulesFirstRow.pinnedBy)) = true := by kernel_rfl
theorem rulesFirst_p30 : ((Rows.rulesFirstRow.veiled == (Tryz.f10.params.toList ++ Rows.rulesFirstSpec.plain.varTypes Tryz.pinned.checked.prog ++ Tryz.f10.resultTypes.toList).any (Tryz.pinned.checked.prog.veiledRec ·))) = true := by kernel_rfl
theorem rulesFirst_p31 : (Rows.rulesFirstRow.veiledFits Tryz.pinned.checked.prog Tryz.f10.params.toList (Tryz.f10.params.toList ++ Rows.rulesFirstSpec.plain.varTypes Tryz.pinned.checked.prog ++ Tryz.f10.resultTypes.toList)) = true := by kernel_rfl

theorem rulesFirst_joined : joinedFacts Tryz.pinned.checked.prog 10 Tryz.f10 Rows.rulesFirstSpec Rows.rulesFirstRow = true :=
  joinedFacts_mk rulesFirst_p0 fact1 fact2 rulesFirst_p3 rulesFirst_p4 rulesFirst_p5 fact6 rulesFirst_p7 fact8 rulesFirst_p9 rulesFirst_p10 rulesFirst_p11 rulesFirst_p12 rulesFirst_p13 rulesFirst_p14 rulesFirst_p15 rulesFirst_p16 rulesFirst_p17 rulesFirst_p18 rulesFirst_p19 rulesFirst_p20 rulesFirst_p21 fact22 rulesFirst_p23 fact24 fact25 fact26 fact27 rulesFirst_p28 rulesFirst_p29 rulesFirst_p30 rulesFirst_p31

theorem rulesFirst_named : Tryz.pinned.checked.prog.funcNamed Rows.rulesFirstRow.func = some 10 := by kernel_rfl
theorem rulesFirst_instance : Tryz.f10.isInstance Tryz.pinned.checked.prog Rows.rulesFirstRow.origin Rows.rulesFirstRow.targs := of_decide_eq_true (by kernel_rfl)
theorem rulesFirst_wrapper : Tryz.f10.isWrapper Tryz.pinned.checked.prog Rows.rulesFirstRow.wrapper Rows.rulesFirstRow.mainSum := by unfold Func.isWrapper; first | (rw [if_pos (by decide +kernel)]; kernel_rfl) | (rw [if_neg (by decide +kernel)]; exact ⟨rfl, rfl⟩)
theorem rulesFirst_wf : Rows.rulesFirstRow.wfByText (OpenSpec.ofChange Rows.rulesFirstSpec) = true := by kernel_rfl
theorem rulesFirst_goes : false = Rows.rulesFirstRow.goesBy Tryz.pinned.checked.prog := by kernel_rfl

theorem rulesFirst_holds : Rows.rulesFirstRow.holds Tryz.pinned (OpenSpec.ofChange Rows.rulesFirstSpec) :=
  OpenClaim.holds_of_wide 10 Tryz.f10 rfl rfl rfl rfl rfl rfl rfl ⟨rfl, rfl, rfl, rfl, rfl⟩ rfl rfl rfl rfl rfl rulesFirst_named Tryz.func10 rulesFirst_joined
    rulesFirst_instance rulesFirst_wrapper
    (fun os started H enc _ => rulesFirst_lifted os started H enc)

theorem rulesFirst_card : Rows.RulesFirstCardSaid :=
  Claim7.holds_tied_plain_at .later [] [.data, .pinned] true (true, "e273f5272d88c497d37e9d766c9a4909ddf1804e3d7dd54ce4e691371479e93c") false rulesFirst_holds (fun _ h => by cases h) rulesFirst_wf (fun _ h => by cases h) rulesFirst_row_tie rfl ⟨rfl, rfl⟩ factMain rfl
    (fun f fn hf hfn => by
      obtain rfl : f = 10 := Option.some.inj (rulesFirst_named.symm.trans hf) |>.symm
      obtain rfl : fn = Tryz.f10 := (Option.some.inj (Tryz.func10.symm.trans hfn)).symm
      refine ⟨factLooks, fun j t ht => ?_⟩
      rw [Tryz.params10] at ht
      revert ht
      match j with
      | 0 => intro ht; cases ht; kernel_rfl
      | 1 => intro ht; cases ht; kernel_rfl
      | 2 => intro ht; cases ht; kernel_rfl
      | j + 3 => intro ht; simp at ht)
    rulesFirst_goes
#print axioms rulesFirst_card
end Go.Proofs.YtncmgiddcefpcaaGreatDoor
