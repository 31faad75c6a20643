/- TreeNames: true, at every input; the input reads as it did. No condition. -/
import Derived.Test.YtncmgiddcefpcaaDoorLawTreeNames
import Derived.Test.YtncmgiddcefpcaaDoorFacts
import Derived.Test.YtncmgiddcefpcaaDoorTie
import Derived.Test.YtncmgiddcefpcaaDoorCards
import Derived.Test.YtncmgiddcefpcaaDoorChecked
import Derived.ProofKit
import Derived.Lay
import Derived.LaidOnce
import Derived.SevenTiedAt
import Derived.ChangeMaps5
import Derived.Carry
import Derived.Deep.DeepHandedRow
import Derived.ChangeOld
namespace Go.Proofs.YtncmgiddcefpcaaDoor
open Go Go.Ev Go.RowKit Go.ChangeShapes Go.WideShapes Go.ChangeAt
set_option maxRecDepth 100000

theorem treeNames_blocks {H : Type} {enc : TypeId × Value → H} {W : World} {t : TypeId} {v : Value} {d : DataW H} {ps : List MemPlace} (h : DataW.Trod enc Tryd.prog W 0 (fun _ => true) true t v d ps) : ∀ x ∈ ps, x.block < W.heap.size := by
  obtain ⟨f, hf⟩ := h; exact DataW.trod_lt f _ _ _ hf
theorem treeNames_own : ownKnob Tryd.prog.godebug = none := by kernel_rfl
theorem treeNames_lifted (os : Os) (started : os.Started) (H : Type) (enc : TypeId × Value → H) :
    ReturnsInHanded {} Tryd.checked os 20 .any (fun w args => (Rows.treeNamesSpec.pre enc Tryd.prog Tryd.f20 [] false w args ∧ laidMetH Tryd.prog Rows.treeNamesRow.laid w) ∧ sizedMet enc Tryd.prog Tryd.f20 (OpenSpec.ofChange Rows.treeNamesSpec) false w args)
      (Rows.treeNamesSpec.post enc Tryd.prog Tryd.f20 false true false false) := by
  refine returnsInHanded_of_change_and_shaped (C := Tryd.checked) (X := fun w _ => laidMetH Tryd.prog Rows.treeNamesRow.laid w) (fun _ _ _ hh h => h.of_heap hh) treeNames_own started (by kernel_rfl) Tryd.func20
    (ChangeSpec.witness_shaped (enc := enc) (C := Tryd.checked) (os := os) (X := fun w _ => laidMetH Tryd.prog Rows.treeNamesRow.laid w) false (World.laidAll Tryd.prog os Rows.treeNamesRow.laid) #[Value.slice none 0 0, Value.int .u8 0] 8 (World.laidAll_os _ _ _)
      (World.shaped_of_ZipB (by kernel_rfl) (by kernel_rfl)) (by kernel_rfl) (by kernel_rfl) (by kernel_rfl)
      (by rw [MakeChecks.laidMetH_plain _ _ _ (by kernel_rfl)]; exact laidMet_laidAll _ (by kernel_rfl) (by kernel_rfl))) ?_
  intro W base args ds gs before hval0 hW _ _ _ hsh
  have hW' := hW
  obtain ⟨p, q, hA0, hV, rfl, _, _⟩ := hW
  have hA : DataW.TrodAll enc Tryd.prog W 0 (fun _ => true) true Tryd.f20.params.toList args.toList ds p := hA0
  rw [Tryd.params20] at hA
  obtain ⟨v0, v1, d0, d1, p0, p1, rfl, rfl, rfl, hd0, hd1⟩ := trodAll_two hA
  have o0 := hval0 0 _ _ (by rw [Tryd.params20]; rfl) rfl
  have r0 := RdT.of hd0
  have o1 := hval0 1 _ _ (by rw [Tryd.params20]; rfl) rfl
  have r1 := RdT.of hd1
  obtain ⟨rfl, rfl⟩ := trodVars_none hV
  refine (treeNames_law W hsh o0 r0 o1 r1).mono fun e W' ⟨he, hb⟩ => ?_
  subst he
  exact ⟨_, rfl, _, _, _, _, _, _, hW', trodAll_mk1 (shut_bool Tryd.underlying4 _), trodAll_mk2 (Below.trod (P := Tryd.prog) fact1 (by kernel_rfl) (of_decide_eq_true (by kernel_rfl)) hd0 hb (treeNames_blocks hd0)) (Below.trod (P := Tryd.prog) fact1 (by kernel_rfl) (of_decide_eq_true (by kernel_rfl)) hd1 hb (treeNames_blocks hd1)), rfl, hb.frame _, fun h => by cases h⟩

theorem treeNames_p0 : (Rows.treeNamesRow.wf (OpenSpec.ofChange Rows.treeNamesSpec)) = true := by kernel_rfl
theorem treeNames_p3 : (Tryd.f20.params.all (Tryd.pinned.checked.prog.readableRec ·)) = true := by kernel_rfl
theorem treeNames_p4 : (namedTie Tryd.pinned.checked.prog Rows.treeNamesRow.named Rows.treeNamesSpec.vars) = true := by kernel_rfl
theorem treeNames_p5 : ((Rows.treeNamesRow.stops == [])) = true := by kernel_rfl
theorem treeNames_p7 : ((Rows.treeNamesRow.knobs == [])) = true := by kernel_rfl
theorem treeNames_p9 : ((Rows.treeNamesRow.inPlace == Tryd.pinned.checked.prog.inPlace 20)) = true := by kernel_rfl
theorem treeNames_p10 : ((Rows.treeNamesRow.unfollowed == Tryd.pinned.checked.prog.unfollowed 20)) = true := by kernel_rfl
theorem treeNames_p11 : ((Rows.treeNamesRow.recurses == Tryd.pinned.checked.prog.recurses 20)) = true := by kernel_rfl
theorem treeNames_p12 : ((Rows.treeNamesRow.named == Tryd.pinned.checked.prog.varsNamed 20)) = true := by kernel_rfl
theorem treeNames_p13 : ((Rows.treeNamesRow.maps == (Tryd.f20.params.toList ++ Rows.treeNamesSpec.plain.varTypes Tryd.pinned.checked.prog).any (Tryd.pinned.checked.prog.mapsRec ·))) = true := by kernel_rfl
theorem treeNames_p14 : ((Rows.treeNamesRow.ifaces == (Tryd.f20.params.toList ++ Rows.treeNamesSpec.plain.varTypes Tryd.pinned.checked.prog).any (Tryd.pinned.checked.prog.ifacesRec ·))) = true := by kernel_rfl
theorem treeNames_p15 : ((Rows.treeNamesRow.mapsOut == Tryd.pinned.checked.prog.mapsAmong Tryd.f20.resultTypes.toList)) = true := by kernel_rfl
theorem treeNames_p16 : ((Rows.treeNamesRow.loops == (Tryd.f20.params.toList ++ Rows.treeNamesSpec.plain.varTypes Tryd.pinned.checked.prog).any (Tryd.pinned.checked.prog.loopsFrom ·))) = true := by kernel_rfl
theorem treeNames_p17 : ((Rows.treeNamesRow.wideKeys == (Tryd.f20.params.toList ++ Rows.treeNamesSpec.plain.varTypes Tryd.pinned.checked.prog ++ Tryd.f20.resultTypes.toList).any (Tryd.pinned.checked.prog.wideKeysFrom ·))) = true := by kernel_rfl
theorem treeNames_p18 : (Rows.treeNamesSpec.vars.all (Tryd.pinned.checked.prog.varReadable ·)) = true := by kernel_rfl
theorem treeNames_p19 : (Tryd.f20.resultTypes.all (fun t => Tryd.pinned.checked.prog.readableRec t && decide (t < Tryd.pinned.checked.prog.types.size))) = true := by kernel_rfl
theorem treeNames_p20 : ((Rows.treeNamesRow.ifacesOut == Tryd.f20.resultTypes.toList.any (Tryd.pinned.checked.prog.ifacesRec ·))) = true := by kernel_rfl
theorem treeNames_p21 : ((Rows.treeNamesRow.loopsOut == Tryd.f20.resultTypes.toList.any (Tryd.pinned.checked.prog.loopsFrom ·))) = true := by kernel_rfl
theorem treeNames_p23 : (Rows.treeNamesRow.shortTexts.isNone) = true := by kernel_rfl
theorem treeNames_p28 : ((Rows.treeNamesRow.kinds == (if Rows.treeNamesRow.domain.isEmpty then [] else Tryd.f20.params.toList.map fun t => match Tryd.pinned.checked.prog.underlying t with | some (.int k) => some k | _ => none))) = true := by kernel_rfl
theorem treeNames_p29 : ((Rows.treeNamesRow.pinned == Rows.treeNamesRow.pinnedBy)) = true := by kernel_rfl
theorem treeNames_p30 : ((Rows.treeNamesRow.veiled == (Tryd.f20.params.toList ++ Rows.treeNamesSpec.plain.varTypes Tryd.pinned.checked.prog ++ Tryd.f20.resultTypes.toList).any (Tryd.pinned.checked.prog.veiledRec ·))) = true := by kernel_rfl
theorem treeNames_p31 : (Rows.treeNamesRow.veiledFits Tryd.pinned.checked.prog Tryd.f20.params.toList (Tryd.f20.params.toList ++ Rows.treeNamesSpec.plain.varTypes Tryd.pinned.checked.prog ++ Tryd.f20.resultTypes.toList)) = true := by kernel_rfl

theorem treeNames_joined : joinedFacts Tryd.pinned.checked.prog 20 Tryd.f20 Rows.treeNamesSpec Rows.treeNamesRow = true :=
  joinedFacts_mk treeNames_p0 fact1 fact2 treeNames_p3 treeNames_p4 treeNames_p5 fact6 treeNames_p7 fact8 treeNames_p9 treeNames_p10 treeNames_p11 treeNames_p12 treeNames_p13 treeNames_p14 treeNames_p15 treeNames_p16 treeNames_p17 treeNames_p18 treeNames_p19 treeNames_p20 treeNames_p21 fact22 treeNames_p23 fact24 fact25 fact26 fact27 treeNames_p28 treeNames_p29 treeNames_p30 treeNames_p31

theorem treeNames_named : Tryd.pinned.checked.prog.funcNamed Rows.treeNamesRow.func = some 20 := by kernel_rfl
theorem treeNames_instance : Tryd.f20.isInstance Tryd.pinned.checked.prog Rows.treeNamesRow.origin Rows.treeNamesRow.targs := of_decide_eq_true (by kernel_rfl)
theorem treeNames_wrapper : Tryd.f20.isWrapper Tryd.pinned.checked.prog Rows.treeNamesRow.wrapper Rows.treeNamesRow.mainSum := by unfold Func.isWrapper; first | (rw [if_pos (by decide +kernel)]; kernel_rfl) | (rw [if_neg (by decide +kernel)]; exact ⟨rfl, rfl⟩)
theorem treeNames_wf : Rows.treeNamesRow.wfByText (OpenSpec.ofChange Rows.treeNamesSpec) = true := by kernel_rfl
theorem treeNames_goes : false = Rows.treeNamesRow.goesBy Tryd.pinned.checked.prog := by kernel_rfl

theorem treeNames_holds : Rows.treeNamesRow.holds Tryd.pinned (OpenSpec.ofChange Rows.treeNamesSpec) :=
  OpenClaim.holds_of_wide 20 Tryd.f20 rfl rfl rfl rfl rfl rfl rfl ⟨rfl, rfl, rfl, rfl, rfl⟩ rfl rfl rfl rfl rfl treeNames_named Tryd.func20 treeNames_joined
    treeNames_instance treeNames_wrapper
    (fun os started H enc _ => treeNames_lifted os started H enc)

theorem treeNames_card : Rows.TreeNamesCardSaid :=
  Claim7.holds_tied_plain_at .later [] [.data, .pinned] true (true, "d816627b2ae0baf26f24d7b8848545fff235d33b422c6ccc3e0906bae9e4138d") false treeNames_holds (fun _ h => by cases h) treeNames_wf (fun _ h => by cases h) treeNames_row_tie rfl ⟨rfl, rfl⟩ factMain rfl
    (fun f fn hf hfn => by
      obtain rfl : f = 20 := Option.some.inj (treeNames_named.symm.trans hf) |>.symm
      obtain rfl : fn = Tryd.f20 := (Option.some.inj (Tryd.func20.symm.trans hfn)).symm
      refine ⟨factLooks, fun j t ht => ?_⟩
      rw [Tryd.params20] at ht
      revert ht
      match j with
      | 0 => intro ht; cases ht; kernel_rfl
      | 1 => intro ht; cases ht; kernel_rfl
      | j + 2 => intro ht; simp at ht)
    treeNames_goes
#print axioms treeNames_card
end Go.Proofs.YtncmgiddcefpcaaDoor
