/- WorldErase: true, at every input; the input reads as it did. No condition. -/
import Derived.Test.YtnkfjalhibdjcaaGreatDoorBin16
import Derived.Test.YtnkfjalhibdjcaaGreatDoorFacts
import Derived.Test.YtnkfjalhibdjcaaGreatDoorTie
import Derived.Test.YtnkfjalhibdjcaaGreatDoorCards
import Derived.Test.YtnkfjalhibdjcaaGreatDoorChecked
import Derived.ProofKit
import Derived.Lay
import Derived.LaidOnce
import Derived.SevenTiedAt
import Derived.ChangeMaps5
namespace Go.Proofs.YtnkfjalhibdjcaaGreatDoor
open Go Go.Ev Go.RowKit Go.ChangeShapes Go.WideShapes Go.ChangeAt
set_option maxRecDepth 100000

theorem worldErase_law (W : World) (h : W.ShapedOpen Tryz.prog) (c0 : UInt8) (b1 : Bool) (z2 : Int) : Calls Tryz.prog 3 #[.int .u8 (c0.toNat : Int), .bool b1, .int .u16 z2] W fun e w' => e = .returned (.bool true) ∧ Below W.heap.size W w' :=
  closed_meets (kon_from0 h) kon_mix (args := [.int .u8 (c0.toNat : Int), .bool b1, .int .u16 z2]) rfl (worldErase_true c0 b1 z2)

theorem worldErase_own : ownKnob Tryz.prog.godebug = none := by kernel_rfl
theorem worldErase_lifted (os : Os) (started : os.Started) (H : Type) (enc : TypeId × Value → H) :
    ReturnsInHanded {} Tryz.checked os 3 .any (fun w args => (Rows.worldEraseSpec.pre enc Tryz.prog Tryz.f3 [] false w args ∧ laidMetH Tryz.prog Rows.worldEraseRow.laid w) ∧ sizedMet enc Tryz.prog Tryz.f3 (OpenSpec.ofChange Rows.worldEraseSpec) false w args)
      (Rows.worldEraseSpec.post enc Tryz.prog Tryz.f3 false true false false) := by
  refine returnsInHanded_of_change_and_shaped (C := Tryz.checked) (X := fun w _ => laidMetH Tryz.prog Rows.worldEraseRow.laid w) (fun _ _ _ hh h => h.of_heap hh) worldErase_own started (by kernel_rfl) Tryz.func3
    (ChangeSpec.witness_shaped (enc := enc) (C := Tryz.checked) (os := os) (X := fun w _ => laidMetH Tryz.prog Rows.worldEraseRow.laid w) false (World.laidAll Tryz.prog os Rows.worldEraseRow.laid) #[.int .u8 0, .bool false, .int .u16 0] 8 (World.laidAll_os _ _ _)
      (World.shaped_of_ZipB (by kernel_rfl) (by kernel_rfl)) (by kernel_rfl) (by kernel_rfl) (by kernel_rfl)
      (by rw [MakeChecks.laidMetH_plain _ _ _ (by kernel_rfl)]; exact laidMet_laidAll _ (by kernel_rfl) (by kernel_rfl))) ?_
  intro W base args ds gs before hval0 hW _ _ _ hsh
  have hW' := hW
  obtain ⟨p, q, hA0, hV, rfl, _, _⟩ := hW
  have hA : DataW.TrodAll enc Tryz.prog W 0 (fun _ => true) true Tryz.f3.params.toList args.toList ds p := hA0
  rw [Tryz.params3] at hA
  obtain ⟨v0, v1, v2, d0, d1, d2, p0, p1, p2, rfl, rfl, rfl, hd0, hd1, hd2⟩ := trodAll_three hA
  obtain ⟨n0, rfl, rfl, rfl, hn0⟩ := open_int (P := Tryz.prog) Tryz.underlying5 (hval0 0 _ _ (by rw [Tryz.params3]; rfl) rfl) hd0
  obtain ⟨c0, rfl⟩ := u8_of hn0
  obtain ⟨b1, rfl, rfl, rfl⟩ := Go.RowKit.open_bool (P := Tryz.prog) Tryz.underlying4 (hval0 1 _ _ (by rw [Tryz.params3]; rfl) rfl) hd1
  obtain ⟨z2, rfl, rfl, rfl, hn2⟩ := open_int (P := Tryz.prog) Tryz.underlying22 (hval0 2 _ _ (by rw [Tryz.params3]; rfl) rfl) hd2
  obtain ⟨rfl, rfl⟩ := trodVars_none hV
  refine (worldErase_law W hsh c0 b1 z2).mono fun e W' ⟨he, hb⟩ => ?_
  subst he
  exact ⟨_, rfl, _, _, _, _, _, _, hW', trodAll_mk1 (shut_bool Tryz.underlying4 _), trodAll_mk3 (shut_int Tryz.underlying5 hn0) (Go.RowKit.shut_bool Tryz.underlying4 _) (shut_int Tryz.underlying22 hn2), rfl, hb.frame _, fun h => by cases h⟩

theorem worldErase_p0 : (Rows.worldEraseRow.wf (OpenSpec.ofChange Rows.worldEraseSpec)) = true := by kernel_rfl
theorem worldErase_p3 : (Tryz.f3.params.all (Tryz.pinned.checked.prog.readableRec ·)) = true := by kernel_rfl
theorem worldErase_p4 : (namedTie Tryz.pinned.checked.prog Rows.worldEraseRow.named Rows.worldEraseSpec.vars) = true := by kernel_rfl
theorem worldErase_p5 : ((Rows.worldEraseRow.stops == [])) = true := by kernel_rfl
theorem worldErase_p7 : ((Rows.worldEraseRow.knobs == [])) = true := by kernel_rfl
theorem worldErase_p9 : ((Rows.worldEraseRow.inPlace == Tryz.pinned.checked.prog.inPlace 3)) = true := by kernel_rfl
theorem worldErase_p10 : ((Rows.worldEraseRow.unfollowed == Tryz.pinned.checked.prog.unfollowed 3)) = true := by kernel_rfl
theorem worldErase_p11 : ((Rows.worldEraseRow.recurses == Tryz.pinned.checked.prog.recurses 3)) = true := by kernel_rfl
theorem worldErase_p12 : ((Rows.worldEraseRow.named == Tryz.pinned.checked.prog.varsNamed 3)) = true := by kernel_rfl
theorem worldErase_p13 : ((Rows.worldEraseRow.maps == (Tryz.f3.params.toList ++ Rows.worldEraseSpec.plain.varTypes Tryz.pinned.checked.prog).any (Tryz.pinned.checked.prog.mapsRec ·))) = true := by kernel_rfl
theorem worldErase_p14 : ((Rows.worldEraseRow.ifaces == (Tryz.f3.params.toList ++ Rows.worldEraseSpec.plain.varTypes Tryz.pinned.checked.prog).any (Tryz.pinned.checked.prog.ifacesRec ·))) = true := by kernel_rfl
theorem worldErase_p15 : ((Rows.worldEraseRow.mapsOut == Tryz.pinned.checked.prog.mapsAmong Tryz.f3.resultTypes.toList)) = true := by kernel_rfl
theorem worldErase_p16 : ((Rows.worldEraseRow.loops == (Tryz.f3.params.toList ++ Rows.worldEraseSpec.plain.varTypes Tryz.pinned.checked.prog).any (Tryz.pinned.checked.prog.loopsFrom ·))) = true := by kernel_rfl
theorem worldErase_p17 : ((Rows.worldEraseRow.wideKeys == (Tryz.f3.params.toList ++ Rows.worldEraseSpec.plain.varTypes Tryz.pinned.checked.prog ++ Tryz.f3.resultTypes.toList).any (Tryz.pinned.checked.prog.wideKeysFrom ·))) = true := by kernel_rfl
theorem worldErase_p18 : (Rows.worldEraseSpec.vars.all (Tryz.pinned.checked.prog.varReadable ·)) = true := by kernel_rfl
theorem worldErase_p19 : (Tryz.f3.resultTypes.all (fun t => Tryz.pinned.checked.prog.readableRec t && decide (t < Tryz.pinned.checked.prog.types.size))) = true := by kernel_rfl
theorem worldErase_p20 : ((Rows.worldEraseRow.ifacesOut == Tryz.f3.resultTypes.toList.any (Tryz.pinned.checked.prog.ifacesRec ·))) = true := by kernel_rfl
theorem worldErase_p21 : ((Rows.worldEraseRow.loopsOut == Tryz.f3.resultTypes.toList.any (Tryz.pinned.checked.prog.loopsFrom ·))) = true := by kernel_rfl
theorem worldErase_p23 : (Rows.worldEraseRow.shortTexts.isNone) = true := by kernel_rfl
theorem worldErase_p28 : ((Rows.worldEraseRow.kinds == (if Rows.worldEraseRow.domain.isEmpty then [] else Tryz.f3.params.toList.map fun t => match Tryz.pinned.checked.prog.underlying t with | some (.int k) => some k | _ => none))) = true := by kernel_rfl
theorem worldErase_p29 : ((Rows.worldEraseRow.pinned == Rows.worldEraseRow.pinnedBy)) = true := by kernel_rfl
theorem worldErase_p30 : ((Rows.worldEraseRow.veiled == (Tryz.f3.params.toList ++ Rows.worldEraseSpec.plain.varTypes Tryz.pinned.checked.prog ++ Tryz.f3.resultTypes.toList).any (Tryz.pinned.checked.prog.veiledRec ·))) = true := by kernel_rfl
theorem worldErase_p31 : (Rows.worldEraseRow.veiledFits Tryz.pinned.checked.prog Tryz.f3.params.toList (Tryz.f3.params.toList ++ Rows.worldEraseSpec.plain.varTypes Tryz.pinned.checked.prog ++ Tryz.f3.resultTypes.toList)) = true := by kernel_rfl

theorem worldErase_joined : joinedFacts Tryz.pinned.checked.prog 3 Tryz.f3 Rows.worldEraseSpec Rows.worldEraseRow = true :=
  joinedFacts_mk worldErase_p0 fact1 fact2 worldErase_p3 worldErase_p4 worldErase_p5 fact6 worldErase_p7 fact8 worldErase_p9 worldErase_p10 worldErase_p11 worldErase_p12 worldErase_p13 worldErase_p14 worldErase_p15 worldErase_p16 worldErase_p17 worldErase_p18 worldErase_p19 worldErase_p20 worldErase_p21 fact22 worldErase_p23 fact24 fact25 fact26 fact27 worldErase_p28 worldErase_p29 worldErase_p30 worldErase_p31

theorem worldErase_named : Tryz.pinned.checked.prog.funcNamed Rows.worldEraseRow.func = some 3 := by kernel_rfl
theorem worldErase_instance : Tryz.f3.isInstance Tryz.pinned.checked.prog Rows.worldEraseRow.origin Rows.worldEraseRow.targs := of_decide_eq_true (by kernel_rfl)
theorem worldErase_wrapper : Tryz.f3.isWrapper Tryz.pinned.checked.prog Rows.worldEraseRow.wrapper Rows.worldEraseRow.mainSum := by unfold Func.isWrapper; first | (rw [if_pos (by decide +kernel)]; kernel_rfl) | (rw [if_neg (by decide +kernel)]; exact ⟨rfl, rfl⟩)
theorem worldErase_wf : Rows.worldEraseRow.wfByText (OpenSpec.ofChange Rows.worldEraseSpec) = true := by kernel_rfl
theorem worldErase_goes : false = Rows.worldEraseRow.goesBy Tryz.pinned.checked.prog := by kernel_rfl

theorem worldErase_holds : Rows.worldEraseRow.holds Tryz.pinned (OpenSpec.ofChange Rows.worldEraseSpec) :=
  OpenClaim.holds_of_wide 3 Tryz.f3 rfl rfl rfl rfl rfl rfl rfl ⟨rfl, rfl, rfl, rfl, rfl⟩ rfl rfl rfl rfl rfl worldErase_named Tryz.func3 worldErase_joined
    worldErase_instance worldErase_wrapper
    (fun os started H enc _ => worldErase_lifted os started H enc)

theorem worldErase_card : Rows.WorldEraseCardSaid :=
  Claim7.holds_tied_plain_at .later [] [.data, .pinned] true (true, "02a6fa087fdf223748944943d3345d53090a62c4acdeb043b9723accd422348a") false worldErase_holds (fun _ h => by cases h) worldErase_wf (fun _ h => by cases h) worldErase_row_tie rfl ⟨rfl, rfl⟩ factMain rfl
    (fun f fn hf hfn => by
      obtain rfl : f = 3 := Option.some.inj (worldErase_named.symm.trans hf) |>.symm
      obtain rfl : fn = Tryz.f3 := (Option.some.inj (Tryz.func3.symm.trans hfn)).symm
      refine ⟨factLooks, fun j t ht => ?_⟩
      rw [Tryz.params3] at ht
      revert ht
      match j with
      | 0 => intro ht; cases ht; kernel_rfl
      | 1 => intro ht; cases ht; kernel_rfl
      | 2 => intro ht; cases ht; kernel_rfl
      | j + 3 => intro ht; simp at ht)
    worldErase_goes
#print axioms worldErase_card
end Go.Proofs.YtnkfjalhibdjcaaGreatDoor
