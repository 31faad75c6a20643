/- NamesParent: true, at every input; the input reads as it did. No condition. -/
import Derived.Test.YtncmgiddcefpcaaDoorLawNamesParent
import Derived.Test.YtncmgiddcefpcaaDoorFacts
import Derived.Test.YtncmgiddcefpcaaDoorTie
import Derived.Test.YtncmgiddcefpcaaDoorCards
import Derived.Test.YtncmgiddcefpcaaDoorChecked
import Derived.ProofKit
import Derived.Lay
import Derived.LaidOnce
import Derived.SevenTiedAt
import Derived.ChangeMaps5
namespace Go.Proofs.YtncmgiddcefpcaaDoor
open Go Go.Ev Go.RowKit Go.ChangeShapes Go.WideShapes Go.ChangeAt
set_option maxRecDepth 100000

theorem namesParent_law (W : World) (h : W.ShapedOpen Tryd.prog) (s0 : ByteArray) : Calls Tryd.prog 6 #[.string s0] W fun e w' => e = .returned (.bool true) ∧ Below W.heap.size W w' :=
  open_call (kon_from h) kon_mix (args := [.string s0]) (abs := [.string s0]) rfl (namesParent_true s0 _)

theorem namesParent_own : ownKnob Tryd.prog.godebug = none := by kernel_rfl
theorem namesParent_lifted (os : Os) (started : os.Started) (H : Type) (enc : TypeId × Value → H) :
    ReturnsInHanded {} Tryd.checked os 6 .any (fun w args => (Rows.namesParentSpec.pre enc Tryd.prog Tryd.f6 [] false w args ∧ laidMetH Tryd.prog Rows.namesParentRow.laid w) ∧ sizedMet enc Tryd.prog Tryd.f6 (OpenSpec.ofChange Rows.namesParentSpec) false w args)
      (Rows.namesParentSpec.post enc Tryd.prog Tryd.f6 false true false false) := by
  refine returnsInHanded_of_change_and_shaped (C := Tryd.checked) (X := fun w _ => laidMetH Tryd.prog Rows.namesParentRow.laid w) (fun _ _ _ hh h => h.of_heap hh) namesParent_own started (by kernel_rfl) Tryd.func6
    (ChangeSpec.witness_shaped (enc := enc) (C := Tryd.checked) (os := os) (X := fun w _ => laidMetH Tryd.prog Rows.namesParentRow.laid w) false (World.laidAll Tryd.prog os Rows.namesParentRow.laid) #[.string ByteArray.empty] 8 (World.laidAll_os _ _ _)
      (World.shaped_of_ZipB (by kernel_rfl) (by kernel_rfl)) (by kernel_rfl) (by kernel_rfl) (by kernel_rfl)
      (by rw [MakeChecks.laidMetH_plain _ _ _ (by kernel_rfl)]; exact laidMet_laidAll _ (by kernel_rfl) (by kernel_rfl))) ?_
  intro W base args ds gs before hval0 hW _ _ _ hsh
  have hW' := hW
  obtain ⟨p, q, hA0, hV, rfl, _, _⟩ := hW
  have hA : DataW.TrodAll enc Tryd.prog W 0 (fun _ => true) true Tryd.f6.params.toList args.toList ds p := hA0
  rw [Tryd.params6] at hA
  obtain ⟨v0, d0, rfl, rfl, hd0⟩ := trodAll_one hA
  obtain ⟨s0, rfl, rfl, rfl, hz0⟩ := Go.ChangeMaps.open_string (P := Tryd.prog) Tryd.underlying9 (hval0 0 _ _ (by rw [Tryd.params6]; rfl) rfl) hd0
  obtain ⟨rfl, rfl⟩ := trodVars_none hV
  refine (namesParent_law W hsh s0).mono fun e W' ⟨he, hb⟩ => ?_
  subst he
  exact ⟨_, rfl, _, _, _, _, _, _, hW', trodAll_mk1 (shut_bool Tryd.underlying4 _), trodAll_mk1 (Go.ChangeMaps.shut_string Tryd.underlying9 hz0), rfl, hb.frame _, fun h => by cases h⟩

theorem namesParent_p0 : (Rows.namesParentRow.wf (OpenSpec.ofChange Rows.namesParentSpec)) = true := by kernel_rfl
theorem namesParent_p3 : (Tryd.f6.params.all (Tryd.pinned.checked.prog.readableRec ·)) = true := by kernel_rfl
theorem namesParent_p4 : (namedTie Tryd.pinned.checked.prog Rows.namesParentRow.named Rows.namesParentSpec.vars) = true := by kernel_rfl
theorem namesParent_p5 : ((Rows.namesParentRow.stops == [])) = true := by kernel_rfl
theorem namesParent_p7 : ((Rows.namesParentRow.knobs == [])) = true := by kernel_rfl
theorem namesParent_p9 : ((Rows.namesParentRow.inPlace == Tryd.pinned.checked.prog.inPlace 6)) = true := by kernel_rfl
theorem namesParent_p10 : ((Rows.namesParentRow.unfollowed == Tryd.pinned.checked.prog.unfollowed 6)) = true := by kernel_rfl
theorem namesParent_p11 : ((Rows.namesParentRow.recurses == Tryd.pinned.checked.prog.recurses 6)) = true := by kernel_rfl
theorem namesParent_p12 : ((Rows.namesParentRow.named == Tryd.pinned.checked.prog.varsNamed 6)) = true := by kernel_rfl
theorem namesParent_p13 : ((Rows.namesParentRow.maps == (Tryd.f6.params.toList ++ Rows.namesParentSpec.plain.varTypes Tryd.pinned.checked.prog).any (Tryd.pinned.checked.prog.mapsRec ·))) = true := by kernel_rfl
theorem namesParent_p14 : ((Rows.namesParentRow.ifaces == (Tryd.f6.params.toList ++ Rows.namesParentSpec.plain.varTypes Tryd.pinned.checked.prog).any (Tryd.pinned.checked.prog.ifacesRec ·))) = true := by kernel_rfl
theorem namesParent_p15 : ((Rows.namesParentRow.mapsOut == Tryd.pinned.checked.prog.mapsAmong Tryd.f6.resultTypes.toList)) = true := by kernel_rfl
theorem namesParent_p16 : ((Rows.namesParentRow.loops == (Tryd.f6.params.toList ++ Rows.namesParentSpec.plain.varTypes Tryd.pinned.checked.prog).any (Tryd.pinned.checked.prog.loopsFrom ·))) = true := by kernel_rfl
theorem namesParent_p17 : ((Rows.namesParentRow.wideKeys == (Tryd.f6.params.toList ++ Rows.namesParentSpec.plain.varTypes Tryd.pinned.checked.prog ++ Tryd.f6.resultTypes.toList).any (Tryd.pinned.checked.prog.wideKeysFrom ·))) = true := by kernel_rfl
theorem namesParent_p18 : (Rows.namesParentSpec.vars.all (Tryd.pinned.checked.prog.varReadable ·)) = true := by kernel_rfl
theorem namesParent_p19 : (Tryd.f6.resultTypes.all (fun t => Tryd.pinned.checked.prog.readableRec t && decide (t < Tryd.pinned.checked.prog.types.size))) = true := by kernel_rfl
theorem namesParent_p20 : ((Rows.namesParentRow.ifacesOut == Tryd.f6.resultTypes.toList.any (Tryd.pinned.checked.prog.ifacesRec ·))) = true := by kernel_rfl
theorem namesParent_p21 : ((Rows.namesParentRow.loopsOut == Tryd.f6.resultTypes.toList.any (Tryd.pinned.checked.prog.loopsFrom ·))) = true := by kernel_rfl
theorem namesParent_p23 : (Rows.namesParentRow.shortTexts.isNone) = true := by kernel_rfl
theorem namesParent_p28 : ((Rows.namesParentRow.kinds == (if Rows.namesParentRow.domain.isEmpty then [] else Tryd.f6.params.toList.map fun t => match Tryd.pinned.checked.prog.underlying t with | some (.int k) => some k | _ => none))) = true := by kernel_rfl
theorem namesParent_p29 : ((Rows.namesParentRow.pinned == Rows.namesParentRow.pinnedBy)) = true := by kernel_rfl
theorem namesParent_p30 : ((Rows.namesParentRow.veiled == (Tryd.f6.params.toList ++ Rows.namesParentSpec.plain.varTypes Tryd.pinned.checked.prog ++ Tryd.f6.resultTypes.toList).any (Tryd.pinned.checked.prog.veiledRec ·))) = true := by kernel_rfl
theorem namesParent_p31 : (Rows.namesParentRow.veiledFits Tryd.pinned.checked.prog Tryd.f6.params.toList (Tryd.f6.params.toList ++ Rows.namesParentSpec.plain.varTypes Tryd.pinned.checked.prog ++ Tryd.f6.resultTypes.toList)) = true := by kernel_rfl

theorem namesParent_joined : joinedFacts Tryd.pinned.checked.prog 6 Tryd.f6 Rows.namesParentSpec Rows.namesParentRow = true :=
  joinedFacts_mk namesParent_p0 fact1 fact2 namesParent_p3 namesParent_p4 namesParent_p5 fact6 namesParent_p7 fact8 namesParent_p9 namesParent_p10 namesParent_p11 namesParent_p12 namesParent_p13 namesParent_p14 namesParent_p15 namesParent_p16 namesParent_p17 namesParent_p18 namesParent_p19 namesParent_p20 namesParent_p21 fact22 namesParent_p23 fact24 fact25 fact26 fact27 namesParent_p28 namesParent_p29 namesParent_p30 namesParent_p31

theorem namesParent_named : Tryd.pinned.checked.prog.funcNamed Rows.namesParentRow.func = some 6 := by kernel_rfl
theorem namesParent_instance : Tryd.f6.isInstance Tryd.pinned.checked.prog Rows.namesParentRow.origin Rows.namesParentRow.targs := of_decide_eq_true (by kernel_rfl)
theorem namesParent_wrapper : Tryd.f6.isWrapper Tryd.pinned.checked.prog Rows.namesParentRow.wrapper Rows.namesParentRow.mainSum := by unfold Func.isWrapper; first | (rw [if_pos (by decide +kernel)]; kernel_rfl) | (rw [if_neg (by decide +kernel)]; exact ⟨rfl, rfl⟩)
theorem namesParent_wf : Rows.namesParentRow.wfByText (OpenSpec.ofChange Rows.namesParentSpec) = true := by kernel_rfl
theorem namesParent_goes : false = Rows.namesParentRow.goesBy Tryd.pinned.checked.prog := by kernel_rfl

theorem namesParent_holds : Rows.namesParentRow.holds Tryd.pinned (OpenSpec.ofChange Rows.namesParentSpec) :=
  OpenClaim.holds_of_wide 6 Tryd.f6 rfl rfl rfl rfl rfl rfl rfl ⟨rfl, rfl, rfl, rfl, rfl⟩ rfl rfl rfl rfl rfl namesParent_named Tryd.func6 namesParent_joined
    namesParent_instance namesParent_wrapper
    (fun os started H enc _ => namesParent_lifted os started H enc)

theorem namesParent_card : Rows.NamesParentCardSaid :=
  Claim7.holds_tied_plain_at .later [] [.data, .pinned] true (true, "d816627b2ae0baf26f24d7b8848545fff235d33b422c6ccc3e0906bae9e4138d") false namesParent_holds (fun _ h => by cases h) namesParent_wf (fun _ h => by cases h) namesParent_row_tie rfl ⟨rfl, rfl⟩ factMain rfl
    (fun f fn hf hfn => by
      obtain rfl : f = 6 := Option.some.inj (namesParent_named.symm.trans hf) |>.symm
      obtain rfl : fn = Tryd.f6 := (Option.some.inj (Tryd.func6.symm.trans hfn)).symm
      refine ⟨factLooks, fun j t ht => ?_⟩
      rw [Tryd.params6] at ht
      revert ht
      match j with
      | 0 => intro ht; cases ht; kernel_rfl
      | j + 1 => intro ht; simp at ht)
    namesParent_goes
#print axioms namesParent_card
end Go.Proofs.YtncmgiddcefpcaaDoor
