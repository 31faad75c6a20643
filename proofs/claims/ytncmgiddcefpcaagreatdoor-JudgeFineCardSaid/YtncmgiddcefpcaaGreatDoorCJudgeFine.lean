/- JudgeFine: true, at every input; the input reads as it did. No condition. -/
import Derived.Test.YtncmgiddcefpcaaGreatDoorBin12
import Derived.Test.YtncmgiddcefpcaaGreatDoorTie
import Derived.Test.YtncmgiddcefpcaaGreatDoorCards
import Derived.Test.YtncmgiddcefpcaaGreatDoorChecked
import Derived.ProofKit
import Derived.Lay
import Derived.LaidOnce
import Derived.SevenTiedAt
import Derived.ChangeMaps5
import Derived.Carry
import Derived.Deep.DeepHandedRow
import Derived.ChangeOld
namespace Go.Proofs.YtncmgiddcefpcaaGreatDoor
open Go Go.Ev Go.RowKit Go.ChangeShapes Go.WideShapes Go.ChangeAt
set_option maxRecDepth 100000

theorem judgeFine_blocks {H : Type} {enc : TypeId × Value → H} {W : World} {t : TypeId} {v : Value} {d : DataW H} {ps : List MemPlace} (h : DataW.Trod enc Tryz.prog W 0 (fun _ => true) true t v d ps) : ∀ x ∈ ps, x.block < W.heap.size := by
  obtain ⟨f, hf⟩ := h; exact DataW.trod_lt f _ _ _ hf
theorem judgeFine_own : ownKnob Tryz.prog.godebug = none := by kernel_rfl
theorem judgeFine_lifted (os : Os) (started : os.Started) (H : Type) (enc : TypeId × Value → H) :
    ReturnsInHanded {} Tryz.checked os 7 .any (fun w args => (Rows.judgeFineSpec.pre enc Tryz.prog Tryz.f7 [] false w args ∧ laidMetH Tryz.prog Rows.judgeFineRow.laid w) ∧ sizedMet enc Tryz.prog Tryz.f7 (OpenSpec.ofChange Rows.judgeFineSpec) false w args)
      (Rows.judgeFineSpec.post enc Tryz.prog Tryz.f7 false true false false) := by
  refine returnsInHanded_of_change_and_shaped (C := Tryz.checked) (X := fun w _ => laidMetH Tryz.prog Rows.judgeFineRow.laid w) (fun _ _ _ hh h => h.of_heap hh) judgeFine_own started (by kernel_rfl) Tryz.func7
    (ChangeSpec.witness_shaped (enc := enc) (C := Tryz.checked) (os := os) (X := fun w _ => laidMetH Tryz.prog Rows.judgeFineRow.laid w) false (World.laidAll Tryz.prog os Rows.judgeFineRow.laid) #[Value.slice none 0 0, Value.slice none 0 0, Value.slice none 0 0] 8 (World.laidAll_os _ _ _)
      (World.shaped_of_ZipB (by kernel_rfl) (by kernel_rfl)) (by kernel_rfl) (by kernel_rfl) (by kernel_rfl)
      (by rw [MakeChecks.laidMetH_plain _ _ _ (by kernel_rfl)]; exact laidMet_laidAll _ (by kernel_rfl) (by kernel_rfl))) ?_
  intro W base args ds gs before hval0 hW _ _ _ hsh
  have hW' := hW
  obtain ⟨p, q, hA0, hV, rfl, _, _⟩ := hW
  have hA : DataW.TrodAll enc Tryz.prog W 0 (fun _ => true) true Tryz.f7.params.toList args.toList ds p := hA0
  rw [Tryz.params7] at hA
  obtain ⟨v0, v1, v2, d0, d1, d2, p0, p1, p2, rfl, rfl, rfl, hd0, hd1, hd2⟩ := trodAll_three hA
  have o0 := hval0 0 _ _ (by rw [Tryz.params7]; rfl) rfl
  have r0 := RdT.of hd0
  have o1 := hval0 1 _ _ (by rw [Tryz.params7]; rfl) rfl
  have r1 := RdT.of hd1
  have o2 := hval0 2 _ _ (by rw [Tryz.params7]; rfl) rfl
  have r2 := RdT.of hd2
  obtain ⟨rfl, rfl⟩ := trodVars_none hV
  refine (judgeFine_law W hsh o0 r0 o1 r1 o2 r2).mono fun e W' ⟨he, hb⟩ => ?_
  subst he
  exact ⟨_, rfl, _, _, _, _, _, _, hW', trodAll_mk1 (shut_bool Tryz.underlying4 _), trodAll_mk3 (Below.trod (P := Tryz.prog) fact1 (by kernel_rfl) (of_decide_eq_true (by kernel_rfl)) hd0 hb (judgeFine_blocks hd0)) (Below.trod (P := Tryz.prog) fact1 (by kernel_rfl) (of_decide_eq_true (by kernel_rfl)) hd1 hb (judgeFine_blocks hd1)) (Below.trod (P := Tryz.prog) fact1 (by kernel_rfl) (of_decide_eq_true (by kernel_rfl)) hd2 hb (judgeFine_blocks hd2)), rfl, hb.frame _, fun h => by cases h⟩

theorem judgeFine_p0 : (Rows.judgeFineRow.wf (OpenSpec.ofChange Rows.judgeFineSpec)) = true := by kernel_rfl
theorem judgeFine_p3 : (Tryz.f7.params.all (Tryz.pinned.checked.prog.readableRec ·)) = true := by kernel_rfl
theorem judgeFine_p4 : (namedTie Tryz.pinned.checked.prog Rows.judgeFineRow.named Rows.judgeFineSpec.vars) = true := by kernel_rfl
theorem judgeFine_p5 : ((Rows.judgeFineRow.stops == [])) = true := by kernel_rfl
theorem judgeFine_p7 : ((Rows.judgeFineRow.knobs == [])) = true := by kernel_rfl
theorem judgeFine_p9 : ((Rows.judgeFineRow.inPlace == Tryz.pinned.checked.prog.inPlace 7)) = true := by kernel_rfl
theorem judgeFine_p10 : ((Rows.judgeFineRow.unfollowed == Tryz.pinned.checked.prog.unfollowed 7)) = true := by kernel_rfl
theorem judgeFine_p11 : ((Rows.judgeFineRow.recurses == Tryz.pinned.checked.prog.recurses 7)) = true := by kernel_rfl
theorem judgeFine_p12 : ((Rows.judgeFineRow.named == Tryz.pinned.checked.prog.varsNamed 7)) = true := by kernel_rfl
theorem judgeFine_p13 : ((Rows.judgeFineRow.maps == (Tryz.f7.params.toList ++ Rows.judgeFineSpec.plain.varTypes Tryz.pinned.checked.prog).any (Tryz.pinned.checked.prog.mapsRec ·))) = true := by kernel_rfl
theorem judgeFine_p14 : ((Rows.judgeFineRow.ifaces == (Tryz.f7.params.toList ++ Rows.judgeFineSpec.plain.varTypes Tryz.pinned.checked.prog).any (Tryz.pinned.checked.prog.ifacesRec ·))) = true := by kernel_rfl
theorem judgeFine_p15 : ((Rows.judgeFineRow.mapsOut == Tryz.pinned.checked.prog.mapsAmong Tryz.f7.resultTypes.toList)) = true := by kernel_rfl
theorem judgeFine_p16 : ((Rows.judgeFineRow.loops == (Tryz.f7.params.toList ++ Rows.judgeFineSpec.plain.varTypes Tryz.pinned.checked.prog).any (Tryz.pinned.checked.prog.loopsFrom ·))) = true := by kernel_rfl
theorem judgeFine_p17 : ((Rows.judgeFineRow.wideKeys == (Tryz.f7.params.toList ++ Rows.judgeFineSpec.plain.varTypes Tryz.pinned.checked.prog ++ Tryz.f7.resultTypes.toList).any (Tryz.pinned.checked.prog.wideKeysFrom ·))) = true := by kernel_rfl
theorem judgeFine_p18 : (Rows.judgeFineSpec.vars.all (Tryz.pinned.checked.prog.varReadable ·)) = true := by kernel_rfl
theorem judgeFine_p19 : (Tryz.f7.resultTypes.all (fun t => Tryz.pinned.checked.prog.readableRec t && decide (t < Tryz.pinned.checked.prog.types.size))) = true := by kernel_rfl
theorem judgeFine_p20 : ((Rows.judgeFineRow.ifacesOut == Tryz.f7.resultTypes.toList.any (Tryz.pinned.checked.prog.ifacesRec ·))) = true := by kernel_rfl
theorem judgeFine_p21 : ((Rows.judgeFineRow.loopsOut == Tryz.f7.resultTypes.toList.any (Tryz.pinned.checked.prog.loopsFrom ·))) = true := by kernel_rfl
theorem judgeFine_p23 : (Rows.judgeFineRow.shortTexts.isNone) = true := by kernel_rfl
theorem judgeFine_p28 : ((Rows.judgeFineRow.kinds == (if Rows.judgeFineRow.domain.isEmpty then [] else Tryz.f7.params.toList.map fun t => match Tryz.pinned.checked.prog.underlying t with | some (.int k) => some k | _ => none))) = true := by kernel_rfl
theorem judgeFine_p29 : ((Rows.judgeFineRow.pinned == Rows.judgeFineRow.pinnedBy)) = true := by kernel_rfl
theorem judgeFine_p30 : ((Rows.judgeFineRow.veiled == (Tryz.f7.params.toList ++ Rows.judgeFineSpec.plain.varTypes Tryz.pinned.checked.prog ++ Tryz.f7.resultTypes.toList).any (Tryz.pinned.checked.prog.veiledRec ·))) = true := by kernel_rfl
theorem judgeFine_p31 : (Rows.judgeFineRow.veiledFits Tryz.pinned.checked.prog Tryz.f7.params.toList (Tryz.f7.params.toList ++ Rows.judgeFineSpec.plain.varTypes Tryz.pinned.checked.prog ++ Tryz.f7.resultTypes.toList)) = true := by kernel_rfl

theorem judgeFine_joined : joinedFacts Tryz.pinned.checked.prog 7 Tryz.f7 Rows.judgeFineSpec Rows.judgeFineRow = true :=
  joinedFacts_mk judgeFine_p0 fact1 fact2 judgeFine_p3 judgeFine_p4 judgeFine_p5 fact6 judgeFine_p7 fact8 judgeFine_p9 judgeFine_p10 judgeFine_p11 judgeFine_p12 judgeFine_p13 judgeFine_p14 judgeFine_p15 judgeFine_p16 judgeFine_p17 judgeFine_p18 judgeFine_p19 judgeFine_p20 judgeFine_p21 fact22 judgeFine_p23 fact24 fact25 fact26 fact27 judgeFine_p28 judgeFine_p29 judgeFine_p30 judgeFine_p31

theorem judgeFine_named : Tryz.pinned.checked.prog.funcNamed Rows.judgeFineRow.func = some 7 := by kernel_rfl
theorem judgeFine_instance : Tryz.f7.isInstance Tryz.pinned.checked.prog Rows.judgeFineRow.origin Rows.judgeFineRow.targs := of_decide_eq_true (by kernel_rfl)
theorem judgeFine_wrapper : Tryz.f7.isWrapper Tryz.pinned.checked.prog Rows.judgeFineRow.wrapper Rows.judgeFineRow.mainSum := by unfold Func.isWrapper; first | (rw [if_pos (by decide +kernel)]; kernel_rfl) | (rw [if_neg (by decide +kernel)]; exact ⟨rfl, rfl⟩)
theorem judgeFine_wf : Rows.judgeFineRow.wfByText (OpenSpec.ofChange Rows.judgeFineSpec) = true := by kernel_rfl
theorem judgeFine_goes : false = Rows.judgeFineRow.goesBy Tryz.pinned.checked.prog := by kernel_rfl

theorem judgeFine_holds : Rows.judgeFineRow.holds Tryz.pinned (OpenSpec.ofChange Rows.judgeFineSpec) :=
  OpenClaim.holds_of_wide 7 Tryz.f7 rfl rfl rfl rfl rfl rfl rfl ⟨rfl, rfl, rfl, rfl, rfl⟩ rfl rfl rfl rfl rfl judgeFine_named Tryz.func7 judgeFine_joined
    judgeFine_instance judgeFine_wrapper
    (fun os started H enc _ => judgeFine_lifted os started H enc)

theorem judgeFine_card : Rows.JudgeFineCardSaid :=
  Claim7.holds_tied_plain_at .later [] [.data, .pinned] true (true, "e273f5272d88c497d37e9d766c9a4909ddf1804e3d7dd54ce4e691371479e93c") false judgeFine_holds (fun _ h => by cases h) judgeFine_wf (fun _ h => by cases h) judgeFine_row_tie rfl ⟨rfl, rfl⟩ factMain rfl
    (fun f fn hf hfn => by
      obtain rfl : f = 7 := Option.some.inj (judgeFine_named.symm.trans hf) |>.symm
      obtain rfl : fn = Tryz.f7 := (Option.some.inj (Tryz.func7.symm.trans hfn)).symm
      refine ⟨factLooks, fun j t ht => ?_⟩
      rw [Tryz.params7] at ht
      revert ht
      match j with
      | 0 => intro ht; cases ht; kernel_rfl
      | 1 => intro ht; cases ht; kernel_rfl
      | 2 => intro ht; cases ht; kernel_rfl
      | j + 3 => intro ht; simp at ht)
    judgeFine_goes
#print axioms judgeFine_card
end Go.Proofs.YtncmgiddcefpcaaGreatDoor
