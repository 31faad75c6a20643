/- TreeHands: true, at every input; the input reads as it did. No condition. -/
import Derived.Test.YtncmgiddcefpcaaDoorLawTreeHands
import Derived.Test.YtncmgiddcefpcaaDoorFacts
import Derived.Test.YtncmgiddcefpcaaDoorTie
import Derived.Test.YtncmgiddcefpcaaDoorCards
import Derived.Test.YtncmgiddcefpcaaDoorChecked
import Derived.ProofKit
import Derived.Lay
import Derived.LaidOnce
import Derived.SevenTiedAt
import Derived.ChangeMaps5
import Derived.Carry
import Derived.Deep.DeepHandedRow
import Derived.ChangeOld
namespace Go.Proofs.YtncmgiddcefpcaaDoor
open Go Go.Ev Go.RowKit Go.ChangeShapes Go.WideShapes Go.ChangeAt
set_option maxRecDepth 100000

theorem treeHands_blocks {H : Type} {enc : TypeId × Value → H} {W : World} {t : TypeId} {v : Value} {d : DataW H} {ps : List MemPlace} (h : DataW.Trod enc Tryd.prog W 0 (fun _ => true) true t v d ps) : ∀ x ∈ ps, x.block < W.heap.size := by
  obtain ⟨f, hf⟩ := h; exact DataW.trod_lt f _ _ _ hf
theorem treeHands_own : ownKnob Tryd.prog.godebug = none := by kernel_rfl
theorem treeHands_lifted (os : Os) (started : os.Started) (H : Type) (enc : TypeId × Value → H) :
    ReturnsInHanded {} Tryd.checked os 19 .any (fun w args => (Rows.treeHandsSpec.pre enc Tryd.prog Tryd.f19 [] false w args ∧ laidMetH Tryd.prog Rows.treeHandsRow.laid w) ∧ sizedMet enc Tryd.prog Tryd.f19 (OpenSpec.ofChange Rows.treeHandsSpec) false w args)
      (Rows.treeHandsSpec.post enc Tryd.prog Tryd.f19 false true false false) := by
  refine returnsInHanded_of_change_and_shaped (C := Tryd.checked) (X := fun w _ => laidMetH Tryd.prog Rows.treeHandsRow.laid w) (fun _ _ _ hh h => h.of_heap hh) treeHands_own started (by kernel_rfl) Tryd.func19
    (ChangeSpec.witness_shaped (enc := enc) (C := Tryd.checked) (os := os) (X := fun w _ => laidMetH Tryd.prog Rows.treeHandsRow.laid w) false (World.laidAll Tryd.prog os Rows.treeHandsRow.laid) #[.agg #[.bool false, .bool false, .bool false]] 8 (World.laidAll_os _ _ _)
      (World.shaped_of_ZipB (by kernel_rfl) (by kernel_rfl)) (by kernel_rfl) (by kernel_rfl) (by kernel_rfl)
      (by rw [MakeChecks.laidMetH_plain _ _ _ (by kernel_rfl)]; exact laidMet_laidAll _ (by kernel_rfl) (by kernel_rfl))) ?_
  intro W base args ds gs before hval0 hW _ _ _ hsh
  have hW' := hW
  obtain ⟨p, q, hA0, hV, rfl, _, _⟩ := hW
  have hA : DataW.TrodAll enc Tryd.prog W 0 (fun _ => true) true Tryd.f19.params.toList args.toList ds p := hA0
  rw [Tryd.params19] at hA
  obtain ⟨v0, d0, rfl, rfl, hd0⟩ := trodAll_one hA
  have o0 := hval0 0 _ _ (by rw [Tryd.params19]; rfl) rfl
  have r0 := RdT.of hd0
  obtain ⟨rfl, rfl⟩ := trodVars_none hV
  refine (treeHands_law W hsh o0 r0).mono fun e W' ⟨he, hb⟩ => ?_
  subst he
  exact ⟨_, rfl, _, _, _, _, _, _, hW', trodAll_mk1 (shut_bool Tryd.underlying4 _), trodAll_mk1 (Below.trod (P := Tryd.prog) fact1 (by kernel_rfl) (of_decide_eq_true (by kernel_rfl)) hd0 hb (treeHands_blocks hd0)), rfl, hb.frame _, fun h => by cases h⟩

theorem treeHands_p0 : (Rows.treeHandsRow.wf (OpenSpec.ofChange Rows.treeHandsSpec)) = true := by kernel_rfl
theorem treeHands_p3 : (Tryd.f19.params.all (Tryd.pinned.checked.prog.readableRec ·)) = true := by kernel_rfl
theorem treeHands_p4 : (namedTie Tryd.pinned.checked.prog Rows.treeHandsRow.named Rows.treeHandsSpec.vars) = true := by kernel_rfl
theorem treeHands_p5 : ((Rows.treeHandsRow.stops == [])) = true := by kernel_rfl
theorem treeHands_p7 : ((Rows.treeHandsRow.knobs == [])) = true := by kernel_rfl
theorem treeHands_p9 : ((Rows.treeHandsRow.inPlace == Tryd.pinned.checked.prog.inPlace 19)) = true := by kernel_rfl
theorem treeHands_p10 : ((Rows.treeHandsRow.unfollowed == Tryd.pinned.checked.prog.unfollowed 19)) = true := by kernel_rfl
theorem treeHands_p11 : ((Rows.treeHandsRow.recurses == Tryd.pinned.checked.prog.recurses 19)) = true := by kernel_rfl
theorem treeHands_p12 : ((Rows.treeHandsRow.named == Tryd.pinned.checked.prog.varsNamed 19)) = true := by kernel_rfl
theorem treeHands_p13 : ((Rows.treeHandsRow.maps == (Tryd.f19.params.toList ++ Rows.treeHandsSpec.plain.varTypes Tryd.pinned.checked.prog).any (Tryd.pinned.checked.prog.mapsRec ·))) = true := by kernel_rfl
theorem treeHands_p14 : ((Rows.treeHandsRow.ifaces == (Tryd.f19.params.toList ++ Rows.treeHandsSpec.plain.varTypes Tryd.pinned.checked.prog).any (Tryd.pinned.checked.prog.ifacesRec ·))) = true := by kernel_rfl
theorem treeHands_p15 : ((Rows.treeHandsRow.mapsOut == Tryd.pinned.checked.prog.mapsAmong Tryd.f19.resultTypes.toList)) = true := by kernel_rfl
theorem treeHands_p16 : ((Rows.treeHandsRow.loops == (Tryd.f19.params.toList ++ Rows.treeHandsSpec.plain.varTypes Tryd.pinned.checked.prog).any (Tryd.pinned.checked.prog.loopsFrom ·))) = true := by kernel_rfl
theorem treeHands_p17 : ((Rows.treeHandsRow.wideKeys == (Tryd.f19.params.toList ++ Rows.treeHandsSpec.plain.varTypes Tryd.pinned.checked.prog ++ Tryd.f19.resultTypes.toList).any (Tryd.pinned.checked.prog.wideKeysFrom ·))) = true := by kernel_rfl
theorem treeHands_p18 : (Rows.treeHandsSpec.vars.all (Tryd.pinned.checked.prog.varReadable ·)) = true := by kernel_rfl
theorem treeHands_p19 : (Tryd.f19.resultTypes.all (fun t => Tryd.pinned.checked.prog.readableRec t && decide (t < Tryd.pinned.checked.prog.types.size))) = true := by kernel_rfl
theorem treeHands_p20 : ((Rows.treeHandsRow.ifacesOut == Tryd.f19.resultTypes.toList.any (Tryd.pinned.checked.prog.ifacesRec ·))) = true := by kernel_rfl
theorem treeHands_p21 : ((Rows.treeHandsRow.loopsOut == Tryd.f19.resultTypes.toList.any (Tryd.pinned.checked.prog.loopsFrom ·))) = true := by kernel_rfl
theorem treeHands_p23 : (Rows.treeHandsRow.shortTexts.isNone) = true := by kernel_rfl
theorem treeHands_p28 : ((Rows.treeHandsRow.kinds == (if Rows.treeHandsRow.domain.isEmpty then [] else Tryd.f19.params.toList.map fun t => match Tryd.pinned.checked.prog.underlying t with | some (.int k) => some k | _ => none))) = true := by kernel_rfl
theorem treeHands_p29 : ((Rows.treeHandsRow.pinned == Rows.treeHandsRow.pinnedBy)) = true := by kernel_rfl
theorem treeHands_p30 : ((Rows.treeHandsRow.veiled == (Tryd.f19.params.toList ++ Rows.treeHandsSpec.plain.varTypes Tryd.pinned.checked.prog ++ Tryd.f19.resultTypes.toList).any (Tryd.pinned.checked.prog.veiledRec ·))) = true := by kernel_rfl
theorem treeHands_p31 : (Rows.treeHandsRow.veiledFits Tryd.pinned.checked.prog Tryd.f19.params.toList (Tryd.f19.params.toList ++ Rows.treeHandsSpec.plain.varTypes Tryd.pinned.checked.prog ++ Tryd.f19.resultTypes.toList)) = true := by kernel_rfl

theorem treeHands_joined : joinedFacts Tryd.pinned.checked.prog 19 Tryd.f19 Rows.treeHandsSpec Rows.treeHandsRow = true :=
  joinedFacts_mk treeHands_p0 fact1 fact2 treeHands_p3 treeHands_p4 treeHands_p5 fact6 treeHands_p7 fact8 treeHands_p9 treeHands_p10 treeHands_p11 treeHands_p12 treeHands_p13 treeHands_p14 treeHands_p15 treeHands_p16 treeHands_p17 treeHands_p18 treeHands_p19 treeHands_p20 treeHands_p21 fact22 treeHands_p23 fact24 fact25 fact26 fact27 treeHands_p28 treeHands_p29 treeHands_p30 treeHands_p31

theorem treeHands_named : Tryd.pinned.checked.prog.funcNamed Rows.treeHandsRow.func = some 19 := by kernel_rfl
theorem treeHands_instance : Tryd.f19.isInstance Tryd.pinned.checked.prog Rows.treeHandsRow.origin Rows.treeHandsRow.targs := of_decide_eq_true (by kernel_rfl)
theorem treeHands_wrapper : Tryd.f19.isWrapper Tryd.pinned.checked.prog Rows.treeHandsRow.wrapper Rows.treeHandsRow.mainSum := by unfold Func.isWrapper; first | (rw [if_pos (by decide +kernel)]; kernel_rfl) | (rw [if_neg (by decide +kernel)]; exact ⟨rfl, rfl⟩)
theorem treeHands_wf : Rows.treeHandsRow.wfByText (OpenSpec.ofChange Rows.treeHandsSpec) = true := by kernel_rfl
theorem treeHands_goes : false = Rows.treeHandsRow.goesBy Tryd.pinned.checked.prog := by kernel_rfl

theorem treeHands_holds : Rows.treeHandsRow.holds Tryd.pinned (OpenSpec.ofChange Rows.treeHandsSpec) :=
  OpenClaim.holds_of_wide 19 Tryd.f19 rfl rfl rfl rfl rfl rfl rfl ⟨rfl, rfl, rfl, rfl, rfl⟩ rfl rfl rfl rfl rfl treeHands_named Tryd.func19 treeHands_joined
    treeHands_instance treeHands_wrapper
    (fun os started H enc _ => treeHands_lifted os started H enc)

theorem treeHands_card : Rows.TreeHandsCardSaid :=
  Claim7.holds_tied_plain_at .later [] [.data, .pinned] true (true, "d816627b2ae0baf26f24d7b8848545fff235d33b422c6ccc3e0906bae9e4138d") false treeHands_holds (fun _ h => by cases h) treeHands_wf (fun _ h => by cases h) treeHands_row_tie rfl ⟨rfl, rfl⟩ factMain rfl
    (fun f fn hf hfn => by
      obtain rfl : f = 19 := Option.some.inj (treeHands_named.symm.trans hf) |>.symm
      obtain rfl : fn = Tryd.f19 := (Option.some.inj (Tryd.func19.symm.trans hfn)).symm
      refine ⟨factLooks, fun j t ht => ?_⟩
      rw [Tryd.params19] at ht
      revert ht
      match j with
      | 0 => intro ht; cases ht; kernel_rfl
      | j + 1 => intro ht; simp at ht)
    treeHands_goes
#print axioms treeHands_card
end Go.Proofs.YtncmgiddcefpcaaDoor
