/- TreeDirs: true, at every input; the input reads as it did. No condition. -/
import Derived.Test.YtncmgiddcefpcaaDoorBin9
import Derived.Test.YtncmgiddcefpcaaDoorFacts
import Derived.Test.YtncmgiddcefpcaaDoorTie
import Derived.Test.YtncmgiddcefpcaaDoorCards
import Derived.Test.YtncmgiddcefpcaaDoorChecked
import Derived.ProofKit
import Derived.Lay
import Derived.LaidOnce
import Derived.SevenTiedAt
import Derived.ChangeMaps5
import Derived.Carry
import Derived.Deep.DeepHandedRow
import Derived.ChangeOld
namespace Go.Proofs.YtncmgiddcefpcaaDoor
open Go Go.Ev Go.RowKit Go.ChangeShapes Go.WideShapes Go.ChangeAt
set_option maxRecDepth 100000

theorem treeDirs_blocks {H : Type} {enc : TypeId × Value → H} {W : World} {t : TypeId} {v : Value} {d : DataW H} {ps : List MemPlace} (h : DataW.Trod enc Tryd.prog W 0 (fun _ => true) true t v d ps) : ∀ x ∈ ps, x.block < W.heap.size := by
  obtain ⟨f, hf⟩ := h; exact DataW.trod_lt f _ _ _ hf
theorem treeDirs_own : ownKnob Tryd.prog.godebug = none := by kernel_rfl
theorem treeDirs_lifted (os : Os) (started : os.Started) (H : Type) (enc : TypeId × Value → H) :
    ReturnsInHanded {} Tryd.checked os 18 .any (fun w args => (Rows.treeDirsSpec.pre enc Tryd.prog Tryd.f18 [] false w args ∧ laidMetH Tryd.prog Rows.treeDirsRow.laid w) ∧ sizedMet enc Tryd.prog Tryd.f18 (OpenSpec.ofChange Rows.treeDirsSpec) false w args)
      (Rows.treeDirsSpec.post enc Tryd.prog Tryd.f18 false true false false) := by
  refine returnsInHanded_of_change_and_shaped (C := Tryd.checked) (X := fun w _ => laidMetH Tryd.prog Rows.treeDirsRow.laid w) (fun _ _ _ hh h => h.of_heap hh) treeDirs_own started (by kernel_rfl) Tryd.func18
    (ChangeSpec.witness_shaped (enc := enc) (C := Tryd.checked) (os := os) (X := fun w _ => laidMetH Tryd.prog Rows.treeDirsRow.laid w) false (World.laidAll Tryd.prog os Rows.treeDirsRow.laid) #[Value.slice none 0 0] 8 (World.laidAll_os _ _ _)
      (World.shaped_of_ZipB (by kernel_rfl) (by kernel_rfl)) (by kernel_rfl) (by kernel_rfl) (by kernel_rfl)
      (by rw [MakeChecks.laidMetH_plain _ _ _ (by kernel_rfl)]; exact laidMet_laidAll _ (by kernel_rfl) (by kernel_rfl))) ?_
  intro W base args ds gs before hval0 hW _ _ _ hsh
  have hW' := hW
  obtain ⟨p, q, hA0, hV, rfl, _, _⟩ := hW
  have hA : DataW.TrodAll enc Tryd.prog W 0 (fun _ => true) true Tryd.f18.params.toList args.toList ds p := hA0
  rw [Tryd.params18] at hA
  obtain ⟨v0, d0, rfl, rfl, hd0⟩ := trodAll_one hA
  have o0 := hval0 0 _ _ (by rw [Tryd.params18]; rfl) rfl
  have r0 := RdT.of hd0
  obtain ⟨rfl, rfl⟩ := trodVars_none hV
  refine (treeDirs_law W hsh o0 r0).mono fun e W' ⟨he, hb⟩ => ?_
  subst he
  exact ⟨_, rfl, _, _, _, _, _, _, hW', trodAll_mk1 (shut_bool Tryd.underlying4 _), trodAll_mk1 (Below.trod (P := Tryd.prog) fact1 (by kernel_rfl) (of_decide_eq_true (by kernel_rfl)) hd0 hb (treeDirs_blocks hd0)), rfl, hb.frame _, fun h => by cases h⟩

theorem treeDirs_p0 : (Rows.treeDirsRow.wf (OpenSpec.ofChange Rows.treeDirsSpec)) = true := by kernel_rfl
theorem treeDirs_p3 : (Tryd.f18.params.all (Tryd.pinned.checked.prog.readableRec ·)) = true := by kernel_rfl
theorem treeDirs_p4 : (namedTie Tryd.pinned.checked.prog Rows.treeDirsRow.named Rows.treeDirsSpec.vars) = true := by kernel_rfl
theorem treeDirs_p5 : ((Rows.treeDirsRow.stops == [])) = true := by kernel_rfl
theorem treeDirs_p7 : ((Rows.treeDirsRow.knobs == [])) = true := by kernel_rfl
theorem treeDirs_p9 : ((Rows.treeDirsRow.inPlace == Tryd.pinned.checked.prog.inPlace 18)) = true := by kernel_rfl
theorem treeDirs_p10 : ((Rows.treeDirsRow.unfollowed == Tryd.pinned.checked.prog.unfollowed 18)) = true := by kernel_rfl
theorem treeDirs_p11 : ((Rows.treeDirsRow.recurses == Tryd.pinned.checked.prog.recurses 18)) = true := by kernel_rfl
theorem treeDirs_p12 : ((Rows.treeDirsRow.named == Tryd.pinned.checked.prog.varsNamed 18)) = true := by kernel_rfl
theorem treeDirs_p13 : ((Rows.treeDirsRow.maps == (Tryd.f18.params.toList ++ Rows.treeDirsSpec.plain.varTypes Tryd.pinned.checked.prog).any (Tryd.pinned.checked.prog.mapsRec ·))) = true := by kernel_rfl
theorem treeDirs_p14 : ((Rows.treeDirsRow.ifaces == (Tryd.f18.params.toList ++ Rows.treeDirsSpec.plain.varTypes Tryd.pinned.checked.prog).any (Tryd.pinned.checked.prog.ifacesRec ·))) = true := by kernel_rfl
theorem treeDirs_p15 : ((Rows.treeDirsRow.mapsOut == Tryd.pinned.checked.prog.mapsAmong Tryd.f18.resultTypes.toList)) = true := by kernel_rfl
theorem treeDirs_p16 : ((Rows.treeDirsRow.loops == (Tryd.f18.params.toList ++ Rows.treeDirsSpec.plain.varTypes Tryd.pinned.checked.prog).any (Tryd.pinned.checked.prog.loopsFrom ·))) = true := by kernel_rfl
theorem treeDirs_p17 : ((Rows.treeDirsRow.wideKeys == (Tryd.f18.params.toList ++ Rows.treeDirsSpec.plain.varTypes Tryd.pinned.checked.prog ++ Tryd.f18.resultTypes.toList).any (Tryd.pinned.checked.prog.wideKeysFrom ·))) = true := by kernel_rfl
theorem treeDirs_p18 : (Rows.treeDirsSpec.vars.all (Tryd.pinned.checked.prog.varReadable ·)) = true := by kernel_rfl
theorem treeDirs_p19 : (Tryd.f18.resultTypes.all (fun t => Tryd.pinned.checked.prog.readableRec t && decide (t < Tryd.pinned.checked.prog.types.size))) = true := by kernel_rfl
theorem treeDirs_p20 : ((Rows.treeDirsRow.ifacesOut == Tryd.f18.resultTypes.toList.any (Tryd.pinned.checked.prog.ifacesRec ·))) = true := by kernel_rfl
theorem treeDirs_p21 : ((Rows.treeDirsRow.loopsOut == Tryd.f18.resultTypes.toList.any (Tryd.pinned.checked.prog.loopsFrom ·))) = true := by kernel_rfl
theorem treeDirs_p23 : (Rows.treeDirsRow.shortTexts.isNone) = true := by kernel_rfl
theorem treeDirs_p28 : ((Rows.treeDirsRow.kinds == (if Rows.treeDirsRow.domain.isEmpty then [] else Tryd.f18.params.toList.map fun t => match Tryd.pinned.checked.prog.underlying t with | some (.int k) => some k | _ => none))) = true := by kernel_rfl
theorem treeDirs_p29 : ((Rows.treeDirsRow.pinned == Rows.treeDirsRow.pinnedBy)) = true := by kernel_rfl
theorem treeDirs_p30 : ((Rows.treeDirsRow.veiled == (Tryd.f18.params.toList ++ Rows.treeDirsSpec.plain.varTypes Tryd.pinned.checked.prog ++ Tryd.f18.resultTypes.toList).any (Tryd.pinned.checked.prog.veiledRec ·))) = true := by kernel_rfl
theorem treeDirs_p31 : (Rows.treeDirsRow.veiledFits Tryd.pinned.checked.prog Tryd.f18.params.toList (Tryd.f18.params.toList ++ Rows.treeDirsSpec.plain.varTypes Tryd.pinned.checked.prog ++ Tryd.f18.resultTypes.toList)) = true := by kernel_rfl

theorem treeDirs_joined : joinedFacts Tryd.pinned.checked.prog 18 Tryd.f18 Rows.treeDirsSpec Rows.treeDirsRow = true :=
  joinedFacts_mk treeDirs_p0 fact1 fact2 treeDirs_p3 treeDirs_p4 treeDirs_p5 fact6 treeDirs_p7 fact8 treeDirs_p9 treeDirs_p10 treeDirs_p11 treeDirs_p12 treeDirs_p13 treeDirs_p14 treeDirs_p15 treeDirs_p16 treeDirs_p17 treeDirs_p18 treeDirs_p19 treeDirs_p20 treeDirs_p21 fact22 treeDirs_p23 fact24 fact25 fact26 fact27 treeDirs_p28 treeDirs_p29 treeDirs_p30 treeDirs_p31

theorem treeDirs_named : Tryd.pinned.checked.prog.funcNamed Rows.treeDirsRow.func = some 18 := by kernel_rfl
theorem treeDirs_instance : Tryd.f18.isInstance Tryd.pinned.checked.prog Rows.treeDirsRow.origin Rows.treeDirsRow.targs := of_decide_eq_true (by kernel_rfl)
theorem treeDirs_wrapper : Tryd.f18.isWrapper Tryd.pinned.checked.prog Rows.treeDirsRow.wrapper Rows.treeDirsRow.mainSum := by unfold Func.isWrapper; first | (rw [if_pos (by decide +kernel)]; kernel_rfl) | (rw [if_neg (by decide +kernel)]; exact ⟨rfl, rfl⟩)
theorem treeDirs_wf : Rows.treeDirsRow.wfByText (OpenSpec.ofChange Rows.treeDirsSpec) = true := by kernel_rfl
theorem treeDirs_goes : false = Rows.treeDirsRow.goesBy Tryd.pinned.checked.prog := by kernel_rfl

theorem treeDirs_holds : Rows.treeDirsRow.holds Tryd.pinned (OpenSpec.ofChange Rows.treeDirsSpec) :=
  OpenClaim.holds_of_wide 18 Tryd.f18 rfl rfl rfl rfl rfl rfl rfl ⟨rfl, rfl, rfl, rfl, rfl⟩ rfl rfl rfl rfl rfl treeDirs_named Tryd.func18 treeDirs_joined
    treeDirs_instance treeDirs_wrapper
    (fun os started H enc _ => treeDirs_lifted os started H enc)

theorem treeDirs_card : Rows.TreeDirsCardSaid :=
  Claim7.holds_tied_plain_at .later [] [.data, .pinned] true (true, "d816627b2ae0baf26f24d7b8848545fff235d33b422c6ccc3e0906bae9e4138d") false treeDirs_holds (fun _ h => by cases h) treeDirs_wf (fun _ h => by cases h) treeDirs_row_tie rfl ⟨rfl, rfl⟩ factMain rfl
    (fun f fn hf hfn => by
      obtain rfl : f = 18 := Option.some.inj (treeDirs_named.symm.trans hf) |>.symm
      obtain rfl : fn = Tryd.f18 := (Option.some.inj (Tryd.func18.symm.trans hfn)).symm
      refine ⟨factLooks, fun j t ht => ?_⟩
      rw [Tryd.params18] at ht
      revert ht
      match j with
      | 0 => intro ht; cases ht; kernel_rfl
      | j + 1 => intro ht; simp at ht)
    treeDirs_goes
#print axioms treeDirs_card
end Go.Proofs.YtncmgiddcefpcaaDoor
