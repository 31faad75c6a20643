/- SnapOrder: true, at every input; the input reads as it did. No condition. -/
import Derived.Test.YtiffcdaipamneaaGreatDoorBin5
import Derived.Test.YtiffcdaipamneaaGreatDoorFacts
import Derived.Test.YtiffcdaipamneaaGreatDoorTie
import Derived.Test.YtiffcdaipamneaaGreatDoorCards
import Derived.Test.YtiffcdaipamneaaGreatDoorChecked
import Derived.ProofKit
import Derived.Lay
import Derived.LaidOnce
import Derived.SevenTiedAt
import Derived.ChangeMaps5
namespace Go.Proofs.YtiffcdaipamneaaGreatDoor
open Go Go.Ev Go.RowKit Go.ChangeShapes Go.WideShapes Go.ChangeAt
set_option maxRecDepth 100000

theorem snapOrder_law (W : World) (h : W.ShapedOpen Tryz.prog) (b0 : Bool) (b1 : Bool) : Calls Tryz.prog 3 #[.bool b0, .bool b1] W fun e w' => e = .returned (.bool true) ∧ Below W.heap.size W w' :=
  closed_args (args := [.bool b0, .bool b1]) (kon_from0 h) kon_mix rfl (snapOrder_val b0 b1)

theorem snapOrder_own : ownKnob Tryz.prog.godebug = none := by kernel_rfl
theorem snapOrder_lifted (os : Os) (started : os.Started) (H : Type) (enc : TypeId × Value → H) :
    ReturnsInHanded {} Tryz.checked os 3 .any (fun w args => (Rows.snapOrderSpec.pre enc Tryz.prog Tryz.f3 [] false w args ∧ laidMetH Tryz.prog Rows.snapOrderRow.laid w) ∧ sizedMet enc Tryz.prog Tryz.f3 (OpenSpec.ofChange Rows.snapOrderSpec) false w args)
      (Rows.snapOrderSpec.post enc Tryz.prog Tryz.f3 false true false false) := by
  refine returnsInHanded_of_change_and_shaped (C := Tryz.checked) (X := fun w _ => laidMetH Tryz.prog Rows.snapOrderRow.laid w) (fun _ _ _ hh h => h.of_heap hh) snapOrder_own started (by kernel_rfl) Tryz.func3
    (ChangeSpec.witness_shaped (enc := enc) (C := Tryz.checked) (os := os) (X := fun w _ => laidMetH Tryz.prog Rows.snapOrderRow.laid w) false (World.laidAll Tryz.prog os Rows.snapOrderRow.laid) #[.bool false, .bool false] 8 (World.laidAll_os _ _ _)
      (World.shaped_of_ZipB (by kernel_rfl) (by kernel_rfl)) (by kernel_rfl) (by kernel_rfl) (by kernel_rfl)
      (by rw [MakeChecks.laidMetH_plain _ _ _ (by kernel_rfl)]; exact laidMet_laidAll _ (by kernel_rfl) (by kernel_rfl))) ?_
  intro W base args ds gs before hval0 hW _ _ _ hsh
  have hW' := hW
  obtain ⟨p, q, hA0, hV, rfl, _, _⟩ := hW
  have hA : DataW.TrodAll enc Tryz.prog W 0 (fun _ => true) true Tryz.f3.params.toList args.toList ds p := hA0
  rw [Tryz.params3] at hA
  obtain ⟨v0, v1, d0, d1, p0, p1, rfl, rfl, rfl, hd0, hd1⟩ := trodAll_two hA
  obtain ⟨b0, rfl, rfl, rfl⟩ := Go.RowKit.open_bool (P := Tryz.prog) Tryz.underlying4 (hval0 0 _ _ (by rw [Tryz.params3]; rfl) rfl) hd0
  obtain ⟨b1, rfl, rfl, rfl⟩ := Go.RowKit.open_bool (P := Tryz.prog) Tryz.underlying4 (hval0 1 _ _ (by rw [Tryz.params3]; rfl) rfl) hd1
  obtain ⟨rfl, rfl⟩ := trodVars_none hV
  refine (snapOrder_law W hsh b0 b1).mono fun e W' ⟨he, hb⟩ => ?_
  subst he
  exact ⟨_, rfl, _, _, _, _, _, _, hW', trodAll_mk1 (shut_bool Tryz.underlying4 _), trodAll_mk2 (Go.RowKit.shut_bool Tryz.underlying4 _) (Go.RowKit.shut_bool Tryz.underlying4 _), rfl, hb.frame _, fun h => by cases h⟩

theorem snapOrder_p0 : (Rows.snapOrderRow.wf (OpenSpec.ofChange Rows.snapOrderSpec)) = true := by kernel_rfl
theorem snapOrder_p3 : (Tryz.f3.params.all (Tryz.pinned.checked.prog.readableRec ·)) = true := by kernel_rfl
theorem snapOrder_p4 : (namedTie Tryz.pinned.checked.prog Rows.snapOrderRow.named Rows.snapOrderSpec.vars) = true := by kernel_rfl
theorem snapOrder_p5 : ((Rows.snapOrderRow.stops == [])) = true := by kernel_rfl
theorem snapOrder_p7 : ((Rows.snapOrderRow.knobs == [])) = true := by kernel_rfl
theorem snapOrder_p9 : ((Rows.snapOrderRow.inPlace == Tryz.pinned.checked.prog.inPlace 3)) = true := by kernel_rfl
theorem snapOrder_p10 : ((Rows.snapOrderRow.unfollowed == Tryz.pinned.checked.prog.unfollowed 3)) = true := by kernel_rfl
theorem snapOrder_p11 : ((Rows.snapOrderRow.recurses == Tryz.pinned.checked.prog.recurses 3)) = true := by kernel_rfl
theorem snapOrder_p12 : ((Rows.snapOrderRow.named == Tryz.pinned.checked.prog.varsNamed 3)) = true := by kernel_rfl
theorem snapOrder_p13 : ((Rows.snapOrderRow.maps == (Tryz.f3.params.toList ++ Rows.snapOrderSpec.plain.varTypes Tryz.pinned.checked.prog).any (Tryz.pinned.checked.prog.mapsRec ·))) = true := by kernel_rfl
theorem snapOrder_p14 : ((Rows.snapOrderRow.ifaces == (Tryz.f3.params.toList ++ Rows.snapOrderSpec.plain.varTypes Tryz.pinned.checked.prog).any (Tryz.pinned.checked.prog.ifacesRec ·))) = true := by kernel_rfl
theorem snapOrder_p15 : ((Rows.snapOrderRow.mapsOut == Tryz.pinned.checked.prog.mapsAmong Tryz.f3.resultTypes.toList)) = true := by kernel_rfl
theorem snapOrder_p16 : ((Rows.snapOrderRow.loops == (Tryz.f3.params.toList ++ Rows.snapOrderSpec.plain.varTypes Tryz.pinned.checked.prog).any (Tryz.pinned.checked.prog.loopsFrom ·))) = true := by kernel_rfl
theorem snapOrder_p17 : ((Rows.snapOrderRow.wideKeys == (Tryz.f3.params.toList ++ Rows.snapOrderSpec.plain.varTypes Tryz.pinned.checked.prog ++ Tryz.f3.resultTypes.toList).any (Tryz.pinned.checked.prog.wideKeysFrom ·))) = true := by kernel_rfl
theorem snapOrder_p18 : (Rows.snapOrderSpec.vars.all (Tryz.pinned.checked.prog.varReadable ·)) = true := by kernel_rfl
theorem snapOrder_p19 : (Tryz.f3.resultTypes.all (fun t => Tryz.pinned.checked.prog.readableRec t && decide (t < Tryz.pinned.checked.prog.types.size))) = true := by kernel_rfl
theorem snapOrder_p20 : ((Rows.snapOrderRow.ifacesOut == Tryz.f3.resultTypes.toList.any (Tryz.pinned.checked.prog.ifacesRec ·))) = true := by kernel_rfl
theorem snapOrder_p21 : ((Rows.snapOrderRow.loopsOut == Tryz.f3.resultTypes.toList.any (Tryz.pinned.checked.prog.loopsFrom ·))) = true := by kernel_rfl
theorem snapOrder_p23 : (Rows.snapOrderRow.shortTexts.isNone) = true := by kernel_rfl
theorem snapOrder_p28 : ((Rows.snapOrderRow.kinds == (if Rows.snapOrderRow.domain.isEmpty then [] else Tryz.f3.params.toList.map fun t => match Tryz.pinned.checked.prog.underlying t with | some (.int k) => some k | _ => none))) = true := by kernel_rfl
theorem snapOrder_p29 : ((Rows.snapOrderRow.pinned == Rows.snapOrderRow.pinnedBy)) = true := by kernel_rfl
theorem snapOrder_p30 : ((Rows.snapOrderRow.veiled == (Tryz.f3.params.toList ++ Rows.snapOrderSpec.plain.varTypes Tryz.pinned.checked.prog ++ Tryz.f3.resultTypes.toList).any (Tryz.pinned.checked.prog.veiledRec ·))) = true := by kernel_rfl
theorem snapOrder_p31 : (Rows.snapOrderRow.veiledFits Tryz.pinned.checked.prog Tryz.f3.params.toList (Tryz.f3.params.toList ++ Rows.snapOrderSpec.plain.varTypes Tryz.pinned.checked.prog ++ Tryz.f3.resultTypes.toList)) = true := by kernel_rfl

theorem snapOrder_joined : joinedFacts Tryz.pinned.checked.prog 3 Tryz.f3 Rows.snapOrderSpec Rows.snapOrderRow = true :=
  joinedFacts_mk snapOrder_p0 fact1 fact2 snapOrder_p3 snapOrder_p4 snapOrder_p5 fact6 snapOrder_p7 fact8 snapOrder_p9 snapOrder_p10 snapOrder_p11 snapOrder_p12 snapOrder_p13 snapOrder_p14 snapOrder_p15 snapOrder_p16 snapOrder_p17 snapOrder_p18 snapOrder_p19 snapOrder_p20 snapOrder_p21 fact22 snapOrder_p23 fact24 fact25 fact26 fact27 snapOrder_p28 snapOrder_p29 snapOrder_p30 snapOrder_p31

theorem snapOrder_named : Tryz.pinned.checked.prog.funcNamed Rows.snapOrderRow.func = some 3 := by kernel_rfl
theorem snapOrder_instance : Tryz.f3.isInstance Tryz.pinned.checked.prog Rows.snapOrderRow.origin Rows.snapOrderRow.targs := of_decide_eq_true (by kernel_rfl)
theorem snapOrder_wrapper : Tryz.f3.isWrapper Tryz.pinned.checked.prog Rows.snapOrderRow.wrapper Rows.snapOrderRow.mainSum := by unfold Func.isWrapper; first | (rw [if_pos (by decide +kernel)]; kernel_rfl) | (rw [if_neg (by decide +kernel)]; exact ⟨rfl, rfl⟩)
theorem snapOrder_wf : Rows.snapOrderRow.wfByText (OpenSpec.ofChange Rows.snapOrderSpec) = true := by kernel_rfl
theorem snapOrder_goes : false = Rows.snapOrderRow.goesBy Tryz.pinned.checked.prog := by kernel_rfl

theorem snapOrder_holds : Rows.snapOrderRow.holds Tryz.pinned (OpenSpec.ofChange Rows.snapOrderSpec) :=
  OpenClaim.holds_of_wide 3 Tryz.f3 rfl rfl rfl rfl rfl rfl rfl ⟨rfl, rfl, rfl, rfl, rfl⟩ rfl rfl rfl rfl rfl snapOrder_named Tryz.func3 snapOrder_joined
    snapOrder_instance snapOrder_wrapper
    (fun os started H enc _ => snapOrder_lifted os started H enc)

theorem snapOrder_card : Rows.SnapOrderCardSaid :=
  Claim7.holds_tied_plain_at .later [] [.data, .pinned] true (true, "9f91f17f9adf19c5666e55dbe2af3ef5a1f8d7824c27afc615cdcddcb7c8ee33") false snapOrder_holds (fun _ h => by cases h) snapOrder_wf (fun _ h => by cases h) snapOrder_row_tie rfl ⟨rfl, rfl⟩ factMain rfl
    (fun f fn hf hfn => by
      obtain rfl : f = 3 := Option.some.inj (snapOrder_named.symm.trans hf) |>.symm
      obtain rfl : fn = Tryz.f3 := (Option.some.inj (Tryz.func3.symm.trans hfn)).symm
      refine ⟨factLooks, fun j t ht => ?_⟩
      rw [Tryz.params3] at ht
      revert ht
      match j with
      | 0 => intro ht; cases ht; kernel_rfl
      | 1 => intro ht; cases ht; kernel_rfl
      | j + 2 => intro ht; simp at ht)
    snapOrder_goes
#print axioms snapOrder_card
end Go.Proofs.YtiffcdaipamneaaGreatDoor
