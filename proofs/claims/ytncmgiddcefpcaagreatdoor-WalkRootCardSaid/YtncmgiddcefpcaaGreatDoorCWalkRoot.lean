/- WalkRoot: true, at every input; the input reads as it did. No condition. -/
import Derived.Test.YtncmgiddcefpcaaGreatDoorBin12
import Derived.Test.YtncmgiddcefpcaaGreatDoorTie
import Derived.Test.YtncmgiddcefpcaaGreatDoorCards
import Derived.Test.YtncmgiddcefpcaaGreatDoorChecked
import Derived.ProofKit
import Derived.Lay
import Derived.LaidOnce
import Derived.SevenTiedAt
import Derived.ChangeMaps5
import Derived.Carry
import Derived.Deep.DeepHandedRow
import Derived.ChangeOld
namespace Go.Proofs.YtncmgiddcefpcaaGreatDoor
open Go Go.Ev Go.RowKit Go.ChangeShapes Go.WideShapes Go.ChangeAt
set_option maxRecDepth 100000

theorem walkRoot_blocks {H : Type} {enc : TypeId × Value → H} {W : World} {t : TypeId} {v : Value} {d : DataW H} {ps : List MemPlace} (h : DataW.Trod enc Tryz.prog W 0 (fun _ => true) true t v d ps) : ∀ x ∈ ps, x.block < W.heap.size := by
  obtain ⟨f, hf⟩ := h; exact DataW.trod_lt f _ _ _ hf
theorem walkRoot_own : ownKnob Tryz.prog.godebug = none := by kernel_rfl
theorem walkRoot_lifted (os : Os) (started : os.Started) (H : Type) (enc : TypeId × Value → H) :
    ReturnsInHanded {} Tryz.checked os 3 .any (fun w args => (Rows.walkRootSpec.pre enc Tryz.prog Tryz.f3 [] false w args ∧ laidMetH Tryz.prog Rows.walkRootRow.laid w) ∧ sizedMet enc Tryz.prog Tryz.f3 (OpenSpec.ofChange Rows.walkRootSpec) false w args)
      (Rows.walkRootSpec.post enc Tryz.prog Tryz.f3 false true false false) := by
  refine returnsInHanded_of_change_and_shaped (C := Tryz.checked) (X := fun w _ => laidMetH Tryz.prog Rows.walkRootRow.laid w) (fun _ _ _ hh h => h.of_heap hh) walkRoot_own started (by kernel_rfl) Tryz.func3
    (ChangeSpec.witness_shaped (enc := enc) (C := Tryz.checked) (os := os) (X := fun w _ => laidMetH Tryz.prog Rows.walkRootRow.laid w) false (World.laidAll Tryz.prog os Rows.walkRootRow.laid) #[Value.slice none 0 0, Value.string ByteArray.empty] 8 (World.laidAll_os _ _ _)
      (World.shaped_of_ZipB (by kernel_rfl) (by kernel_rfl)) (by kernel_rfl) (by kernel_rfl) (by kernel_rfl)
      (by rw [MakeChecks.laidMetH_plain _ _ _ (by kernel_rfl)]; exact laidMet_laidAll _ (by kernel_rfl) (by kernel_rfl))) ?_
  intro W base args ds gs before hval0 hW _ _ _ hsh
  have hW' := hW
  obtain ⟨p, q, hA0, hV, rfl, _, _⟩ := hW
  have hA : DataW.TrodAll enc Tryz.prog W 0 (fun _ => true) true Tryz.f3.params.toList args.toList ds p := hA0
  rw [Tryz.params3] at hA
  obtain ⟨v0, v1, d0, d1, p0, p1, rfl, rfl, rfl, hd0, hd1⟩ := trodAll_two hA
  have o0 := hval0 0 _ _ (by rw [Tryz.params3]; rfl) rfl
  have r0 := RdT.of hd0
  have o1 := hval0 1 _ _ (by rw [Tryz.params3]; rfl) rfl
  have r1 := RdT.of hd1
  obtain ⟨rfl, rfl⟩ := trodVars_none hV
  refine (walkRoot_law W hsh o0 r0 o1 r1).mono fun e W' ⟨he, hb⟩ => ?_
  subst he
  exact ⟨_, rfl, _, _, _, _, _, _, hW', trodAll_mk1 (shut_bool Tryz.underlying4 _), trodAll_mk2 (Below.trod (P := Tryz.prog) fact1 (by kernel_rfl) (of_decide_eq_true (by kernel_rfl)) hd0 hb (walkRoot_blocks hd0)) (Below.trod (P := Tryz.prog) fact1 (by kernel_rfl) (of_decide_eq_true (by kernel_rfl)) hd1 hb (walkRoot_blocks hd1)), rfl, hb.frame _, fun h => by cases h⟩

theorem walkRoot_p0 : (Rows.walkRootRow.wf (OpenSpec.ofChange Rows.walkRootSpec)) = true := by kernel_rfl
theorem walkRoot_p3 : (Tryz.f3.params.all (Tryz.pinned.checked.prog.readableRec ·)) = true := by kernel_rfl
theorem walkRoot_p4 : (namedTie Tryz.pinned.checked.prog Rows.walkRootRow.named Rows.walkRootSpec.vars) = true := by kernel_rfl
theorem walkRoot_p5 : ((Rows.walkRootRow.stops == [])) = true := by kernel_rfl
theorem walkRoot_p7 : ((Rows.walkRootRow.knobs == [])) = true := by kernel_rfl
theorem walkRoot_p9 : ((Rows.walkRootRow.inPlace == Tryz.pinned.checked.prog.inPlace 3)) = true := by kernel_rfl
theorem walkRoot_p10 : ((Rows.walkRootRow.unfollowed == Tryz.pinned.checked.prog.unfollowed 3)) = true := by kernel_rfl
theorem walkRoot_p11 : ((Rows.walkRootRow.recurses == Tryz.pinned.checked.prog.recurses 3)) = true := by kernel_rfl
theorem walkRoot_p12 : ((Rows.walkRootRow.named == Tryz.pinned.checked.prog.varsNamed 3)) = true := by kernel_rfl
theorem walkRoot_p13 : ((Rows.walkRootRow.maps == (Tryz.f3.params.toList ++ Rows.walkRootSpec.plain.varTypes Tryz.pinned.checked.prog).any (Tryz.pinned.checked.prog.mapsRec ·))) = true := by kernel_rfl
theorem walkRoot_p14 : ((Rows.walkRootRow.ifaces == (Tryz.f3.params.toList ++ Rows.walkRootSpec.plain.varTypes Tryz.pinned.checked.prog).any (Tryz.pinned.checked.prog.ifacesRec ·))) = true := by kernel_rfl
theorem walkRoot_p15 : ((Rows.walkRootRow.mapsOut == Tryz.pinned.checked.prog.mapsAmong Tryz.f3.resultTypes.toList)) = true := by kernel_rfl
theorem walkRoot_p16 : ((Rows.walkRootRow.loops == (Tryz.f3.params.toList ++ Rows.walkRootSpec.plain.varTypes Tryz.pinned.checked.prog).any (Tryz.pinned.checked.prog.loopsFrom ·))) = true := by kernel_rfl
theorem walkRoot_p17 : ((Rows.walkRootRow.wideKeys == (Tryz.f3.params.toList ++ Rows.walkRootSpec.plain.varTypes Tryz.pinned.checked.prog ++ Tryz.f3.resultTypes.toList).any (Tryz.pinned.checked.prog.wideKeysFrom ·))) = true := by kernel_rfl
theorem walkRoot_p18 : (Rows.walkRootSpec.vars.all (Tryz.pinned.checked.prog.varReadable ·)) = true := by kernel_rfl
theorem walkRoot_p19 : (Tryz.f3.resultTypes.all (fun t => Tryz.pinned.checked.prog.readableRec t && decide (t < Tryz.pinned.checked.prog.types.size))) = true := by kernel_rfl
theorem walkRoot_p20 : ((Rows.walkRootRow.ifacesOut == Tryz.f3.resultTypes.toList.any (Tryz.pinned.checked.prog.ifacesRec ·))) = true := by kernel_rfl
theorem walkRoot_p21 : ((Rows.walkRootRow.loopsOut == Tryz.f3.resultTypes.toList.any (Tryz.pinned.checked.prog.loopsFrom ·))) = true := by kernel_rfl
theorem walkRoot_p23 : (Rows.walkRootRow.shortTexts.isNone) = true := by kernel_rfl
theorem walkRoot_p28 : ((Rows.walkRootRow.kinds == (if Rows.walkRootRow.domain.isEmpty then [] else Tryz.f3.params.toList.map fun t => match Tryz.pinned.checked.prog.underlying t with | some (.int k) => some k | _ => none))) = true := by kernel_rfl
theorem walkRoot_p29 : ((Rows.walkRootRow.pinned == Rows.walkRootRow.pinnedBy)) = true := by kernel_rfl
theorem walkRoot_p30 : ((Rows.walkRootRow.veiled == (Tryz.f3.params.toList ++ Rows.walkRootSpec.plain.varTypes Tryz.pinned.checked.prog ++ Tryz.f3.resultTypes.toList).any (Tryz.pinned.checked.prog.veiledRec ·))) = true := by kernel_rfl
theorem walkRoot_p31 : (Rows.walkRootRow.veiledFits Tryz.pinned.checked.prog Tryz.f3.params.toList (Tryz.f3.params.toList ++ Rows.walkRootSpec.plain.varTypes Tryz.pinned.checked.prog ++ Tryz.f3.resultTypes.toList)) = true := by kernel_rfl

theorem walkRoot_joined : joinedFacts Tryz.pinned.checked.prog 3 Tryz.f3 Rows.walkRootSpec Rows.walkRootRow = true :=
  joinedFacts_mk walkRoot_p0 fact1 fact2 walkRoot_p3 walkRoot_p4 walkRoot_p5 fact6 walkRoot_p7 fact8 walkRoot_p9 walkRoot_p10 walkRoot_p11 walkRoot_p12 walkRoot_p13 walkRoot_p14 walkRoot_p15 walkRoot_p16 walkRoot_p17 walkRoot_p18 walkRoot_p19 walkRoot_p20 walkRoot_p21 fact22 walkRoot_p23 fact24 fact25 fact26 fact27 walkRoot_p28 walkRoot_p29 walkRoot_p30 walkRoot_p31

theorem walkRoot_named : Tryz.pinned.checked.prog.funcNamed Rows.walkRootRow.func = some 3 := by kernel_rfl
theorem walkRoot_instance : Tryz.f3.isInstance Tryz.pinned.checked.prog Rows.walkRootRow.origin Rows.walkRootRow.targs := of_decide_eq_true (by kernel_rfl)
theorem walkRoot_wrapper : Tryz.f3.isWrapper Tryz.pinned.checked.prog Rows.walkRootRow.wrapper Rows.walkRootRow.mainSum := by unfold Func.isWrapper; first | (rw [if_pos (by decide +kernel)]; kernel_rfl) | (rw [if_neg (by decide +kernel)]; exact ⟨rfl, rfl⟩)
theorem walkRoot_wf : Rows.walkRootRow.wfByText (OpenSpec.ofChange Rows.walkRootSpec) = true := by kernel_rfl
theorem walkRoot_goes : false = Rows.walkRootRow.goesBy Tryz.pinned.checked.prog := by kernel_rfl

theorem walkRoot_holds : Rows.walkRootRow.holds Tryz.pinned (OpenSpec.ofChange Rows.walkRootSpec) :=
  OpenClaim.holds_of_wide 3 Tryz.f3 rfl rfl rfl rfl rfl rfl rfl ⟨rfl, rfl, rfl, rfl, rfl⟩ rfl rfl rfl rfl rfl walkRoot_named Tryz.func3 walkRoot_joined
    walkRoot_instance walkRoot_wrapper
    (fun os started H enc _ => walkRoot_lifted os started H enc)

theorem walkRoot_card : Rows.WalkRootCardSaid :=
  Claim7.holds_tied_plain_at .later [] [.data, .pinned] true (true, "e273f5272d88c497d37e9d766c9a4909ddf1804e3d7dd54ce4e691371479e93c") false walkRoot_holds (fun _ h => by cases h) walkRoot_wf (fun _ h => by cases h) walkRoot_row_tie rfl ⟨rfl, rfl⟩ factMain rfl
    (fun f fn hf hfn => by
      obtain rfl : f = 3 := Option.some.inj (walkRoot_named.symm.trans hf) |>.symm
      obtain rfl : fn = Tryz.f3 := (Option.some.inj (Tryz.func3.symm.trans hfn)).symm
      refine ⟨factLooks, fun j t ht => ?_⟩
      rw [Tryz.params3] at ht
      revert ht
      match j with
      | 0 => intro ht; cases ht; kernel_rfl
      | 1 => intro ht; cases ht; kernel_rfl
      | j + 2 => intro ht; simp at ht)
    walkRoot_goes
#print axioms walkRoot_card
end Go.Proofs.YtncmgiddcefpcaaGreatDoor
