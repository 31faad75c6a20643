/- NamesSplit: true, at every input; the input reads as it did. No condition. -/
import Derived.Test.YtncmgiddcefpcaaDoorLawNamesSplit
import Derived.Test.YtncmgiddcefpcaaDoorFacts
import Derived.Test.YtncmgiddcefpcaaDoorTie
import Derived.Test.YtncmgiddcefpcaaDoorCards
import Derived.Test.YtncmgiddcefpcaaDoorChecked
import Derived.ProofKit
import Derived.Lay
import Derived.LaidOnce
import Derived.SevenTiedAt
import Derived.ChangeMaps5
namespace Go.Proofs.YtncmgiddcefpcaaDoor
open Go Go.Ev Go.RowKit Go.ChangeShapes Go.WideShapes Go.ChangeAt
set_option maxRecDepth 100000

theorem namesSplit_law (W : World) (h : W.ShapedOpen Tryd.prog) (s0 : ByteArray) : Calls Tryd.prog 3 #[.string s0] W fun e w' => e = .returned (.bool true) ∧ Below W.heap.size W w' :=
  open_call (kon_from h) kon_mix (args := [.string s0]) (abs := [.string s0]) rfl (namesSplit_true s0 _)

theorem namesSplit_own : ownKnob Tryd.prog.godebug = none := by kernel_rfl
theorem namesSplit_lifted (os : Os) (started : os.Started) (H : Type) (enc : TypeId × Value → H) :
    ReturnsInHanded {} Tryd.checked os 3 .any (fun w args => (Rows.namesSplitSpec.pre enc Tryd.prog Tryd.f3 [] false w args ∧ laidMetH Tryd.prog Rows.namesSplitRow.laid w) ∧ sizedMet enc Tryd.prog Tryd.f3 (OpenSpec.ofChange Rows.namesSplitSpec) false w args)
      (Rows.namesSplitSpec.post enc Tryd.prog Tryd.f3 false true false false) := by
  refine returnsInHanded_of_change_and_shaped (C := Tryd.checked) (X := fun w _ => laidMetH Tryd.prog Rows.namesSplitRow.laid w) (fun _ _ _ hh h => h.of_heap hh) namesSplit_own started (by kernel_rfl) Tryd.func3
    (ChangeSpec.witness_shaped (enc := enc) (C := Tryd.checked) (os := os) (X := fun w _ => laidMetH Tryd.prog Rows.namesSplitRow.laid w) false (World.laidAll Tryd.prog os Rows.namesSplitRow.laid) #[.string ByteArray.empty] 8 (World.laidAll_os _ _ _)
      (World.shaped_of_ZipB (by kernel_rfl) (by kernel_rfl)) (by kernel_rfl) (by kernel_rfl) (by kernel_rfl)
      (by rw [MakeChecks.laidMetH_plain _ _ _ (by kernel_rfl)]; exact laidMet_laidAll _ (by kernel_rfl) (by kernel_rfl))) ?_
  intro W base args ds gs before hval0 hW _ _ _ hsh
  have hW' := hW
  obtain ⟨p, q, hA0, hV, rfl, _, _⟩ := hW
  have hA : DataW.TrodAll enc Tryd.prog W 0 (fun _ => true) true Tryd.f3.params.toList args.toList ds p := hA0
  rw [Tryd.params3] at hA
  obtain ⟨v0, d0, rfl, rfl, hd0⟩ := trodAll_one hA
  obtain ⟨s0, rfl, rfl, rfl, hz0⟩ := Go.ChangeMaps.open_string (P := Tryd.prog) Tryd.underlying9 (hval0 0 _ _ (by rw [Tryd.params3]; rfl) rfl) hd0
  obtain ⟨rfl, rfl⟩ := trodVars_none hV
  refine (namesSplit_law W hsh s0).mono fun e W' ⟨he, hb⟩ => ?_
  subst he
  exact ⟨_, rfl, _, _, _, _, _, _, hW', trodAll_mk1 (shut_bool Tryd.underlying4 _), trodAll_mk1 (Go.ChangeMaps.shut_string Tryd.underlying9 hz0), rfl, hb.frame _, fun h => by cases h⟩

theorem namesSplit_p0 : (Rows.namesSplitRow.wf (OpenSpec.ofChange Rows.namesSplitSpec)) = true := by kernel_rfl
theorem namesSplit_p3 : (Tryd.f3.params.all (Tryd.pinned.checked.prog.readableRec ·)) = true := by kernel_rfl
theorem namesSplit_p4 : (namedTie Tryd.pinned.checked.prog Rows.namesSplitRow.named Rows.namesSplitSpec.vars) = true := by kernel_rfl
theorem namesSplit_p5 : ((Rows.namesSplitRow.stops == [])) = true := by kernel_rfl
theorem namesSplit_p7 : ((Rows.namesSplitRow.knobs == [])) = true := by kernel_rfl
theorem namesSplit_p9 : ((Rows.namesSplitRow.inPlace == Tryd.pinned.checked.prog.inPlace 3)) = true := by kernel_rfl
theorem namesSplit_p10 : ((Rows.namesSplitRow.unfollowed == Tryd.pinned.checked.prog.unfollowed 3)) = true := by kernel_rfl
theorem namesSplit_p11 : ((Rows.namesSplitRow.recurses == Tryd.pinned.checked.prog.recurses 3)) = true := by kernel_rfl
theorem namesSplit_p12 : ((Rows.namesSplitRow.named == Tryd.pinned.checked.prog.varsNamed 3)) = true := by kernel_rfl
theorem namesSplit_p13 : ((Rows.namesSplitRow.maps == (Tryd.f3.params.toList ++ Rows.namesSplitSpec.plain.varTypes Tryd.pinned.checked.prog).any (Tryd.pinned.checked.prog.mapsRec ·))) = true := by kernel_rfl
theorem namesSplit_p14 : ((Rows.namesSplitRow.ifaces == (Tryd.f3.params.toList ++ Rows.namesSplitSpec.plain.varTypes Tryd.pinned.checked.prog).any (Tryd.pinned.checked.prog.ifacesRec ·))) = true := by kernel_rfl
theorem namesSplit_p15 : ((Rows.namesSplitRow.mapsOut == Tryd.pinned.checked.prog.mapsAmong Tryd.f3.resultTypes.toList)) = true := by kernel_rfl
theorem namesSplit_p16 : ((Rows.namesSplitRow.loops == (Tryd.f3.params.toList ++ Rows.namesSplitSpec.plain.varTypes Tryd.pinned.checked.prog).any (Tryd.pinned.checked.prog.loopsFrom ·))) = true := by kernel_rfl
theorem namesSplit_p17 : ((Rows.namesSplitRow.wideKeys == (Tryd.f3.params.toList ++ Rows.namesSplitSpec.plain.varTypes Tryd.pinned.checked.prog ++ Tryd.f3.resultTypes.toList).any (Tryd.pinned.checked.prog.wideKeysFrom ·))) = true := by kernel_rfl
theorem namesSplit_p18 : (Rows.namesSplitSpec.vars.all (Tryd.pinned.checked.prog.varReadable ·)) = true := by kernel_rfl
theorem namesSplit_p19 : (Tryd.f3.resultTypes.all (fun t => Tryd.pinned.checked.prog.readableRec t && decide (t < Tryd.pinned.checked.prog.types.size))) = true := by kernel_rfl
theorem namesSplit_p20 : ((Rows.namesSplitRow.ifacesOut == Tryd.f3.resultTypes.toList.any (Tryd.pinned.checked.prog.ifacesRec ·))) = true := by kernel_rfl
theorem namesSplit_p21 : ((Rows.namesSplitRow.loopsOut == Tryd.f3.resultTypes.toList.any (Tryd.pinned.checked.prog.loopsFrom ·))) = true := by kernel_rfl
theorem namesSplit_p23 : (Rows.namesSplitRow.shortTexts.isNone) = true := by kernel_rfl
theorem namesSplit_p28 : ((Rows.namesSplitRow.kinds == (if Rows.namesSplitRow.domain.isEmpty then [] else Tryd.f3.params.toList.map fun t => match Tryd.pinned.checked.prog.underlying t with | some (.int k) => some k | _ => none))) = true := by kernel_rfl
theorem namesSplit_p29 : ((Rows.namesSplitRow.pinned == Rows.namesSplitRow.pinnedBy)) = true := by kernel_rfl
theorem namesSplit_p30 : ((Rows.namesSplitRow.veiled == (Tryd.f3.params.toList ++ Rows.namesSplitSpec.plain.varTypes Tryd.pinned.checked.prog ++ Tryd.f3.resultTypes.toList).any (Tryd.pinned.checked.prog.veiledRec ·))) = true := by kernel_rfl
theorem namesSplit_p31 : (Rows.namesSplitRow.veiledFits Tryd.pinned.checked.prog Tryd.f3.params.toList (Tryd.f3.params.toList ++ Rows.namesSplitSpec.plain.varTypes Tryd.pinned.checked.prog ++ Tryd.f3.resultTypes.toList)) = true := by kernel_rfl

theorem namesSplit_joined : joinedFacts Tryd.pinned.checked.prog 3 Tryd.f3 Rows.namesSplitSpec Rows.namesSplitRow = true :=
  joinedFacts_mk namesSplit_p0 fact1 fact2 namesSplit_p3 namesSplit_p4 namesSplit_p5 fact6 namesSplit_p7 fact8 namesSplit_p9 namesSplit_p10 namesSplit_p11 namesSplit_p12 namesSplit_p13 namesSplit_p14 namesSplit_p15 namesSplit_p16 namesSplit_p17 namesSplit_p18 namesSplit_p19 namesSplit_p20 namesSplit_p21 fact22 namesSplit_p23 fact24 fact25 fact26 fact27 namesSplit_p28 namesSplit_p29 namesSplit_p30 namesSplit_p31

theorem namesSplit_named : Tryd.pinned.checked.prog.funcNamed Rows.namesSplitRow.func = some 3 := by kernel_rfl
theorem namesSplit_instance : Tryd.f3.isInstance Tryd.pinned.checked.prog Rows.namesSplitRow.origin Rows.namesSplitRow.targs := of_decide_eq_true (by kernel_rfl)
theorem namesSplit_wrapper : Tryd.f3.isWrapper Tryd.pinned.checked.prog Rows.namesSplitRow.wrapper Rows.namesSplitRow.mainSum := by unfold Func.isWrapper; first | (rw [if_pos (by decide +kernel)]; kernel_rfl) | (rw [if_neg (by decide +kernel)]; exact ⟨rfl, rfl⟩)
theorem namesSplit_wf : Rows.namesSplitRow.wfByText (OpenSpec.ofChange Rows.namesSplitSpec) = true := by kernel_rfl
theorem namesSplit_goes : false = Rows.namesSplitRow.goesBy Tryd.pinned.checked.prog := by kernel_rfl

theorem namesSplit_holds : Rows.namesSplitRow.holds Tryd.pinned (OpenSpec.ofChange Rows.namesSplitSpec) :=
  OpenClaim.holds_of_wide 3 Tryd.f3 rfl rfl rfl rfl rfl rfl rfl ⟨rfl, rfl, rfl, rfl, rfl⟩ rfl rfl rfl rfl rfl namesSplit_named Tryd.func3 namesSplit_joined
    namesSplit_instance namesSplit_wrapper
    (fun os started H enc _ => namesSplit_lifted os started H enc)

theorem namesSplit_card : Rows.NamesSplitCardSaid :=
  Claim7.holds_tied_plain_at .later [] [.data, .pinned] true (true, "d816627b2ae0baf26f24d7b8848545fff235d33b422c6ccc3e0906bae9e4138d") false namesSplit_holds (fun _ h => by cases h) namesSplit_wf (fun _ h => by cases h) namesSplit_row_tie rfl ⟨rfl, rfl⟩ factMain rfl
    (fun f fn hf hfn => by
      obtain rfl : f = 3 := Option.some.inj (namesSplit_named.symm.trans hf) |>.symm
      obtain rfl : fn = Tryd.f3 := (Option.some.inj (Tryd.func3.symm.trans hfn)).symm
      refine ⟨factLooks, fun j t ht => ?_⟩
      rw [Tryd.params3] at ht
      revert ht
      match j with
      | 0 => intro ht; cases ht; kernel_rfl
      | j + 1 => intro ht; simp at ht)
    namesSplit_goes
#print axioms namesSplit_card
end Go.Proofs.YtncmgiddcefpcaaDoor
