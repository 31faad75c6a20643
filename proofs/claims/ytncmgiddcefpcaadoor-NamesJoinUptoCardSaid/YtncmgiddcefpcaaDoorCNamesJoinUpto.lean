/- NamesJoin: true, at every input that is not too great; the input reads as it did. No condition. -/
import Derived.Test.YtncmgiddcefpcaaDoorLawNamesJoin
import Derived.Test.YtncmgiddcefpcaaDoorFacts
import Derived.Test.YtncmgiddcefpcaaDoorTie
import Derived.Test.YtncmgiddcefpcaaDoorCards
import Derived.Test.YtncmgiddcefpcaaDoorChecked
import Derived.ProofKit
import Derived.Lay
import Derived.LaidOnce
import Derived.SevenTiedAt
import Derived.ChangeMaps5
import Derived.Carry
import Derived.Deep.DeepHandedRow
import Derived.ChangeOld
namespace Go.Proofs.YtncmgiddcefpcaaDoor
open Go Go.Ev Go.RowKit Go.ChangeShapes Go.WideShapes Go.ChangeAt
set_option maxRecDepth 100000

theorem namesJoin_blocks {H : Type} {enc : TypeId × Value → H} {W : World} {t : TypeId} {v : Value} {d : DataW H} {ps : List MemPlace} (h : DataW.Trod enc Tryd.prog W 0 (fun _ => true) true t v d ps) : ∀ x ∈ ps, x.block < W.heap.size := by
  obtain ⟨f, hf⟩ := h; exact DataW.trod_lt f _ _ _ hf
theorem namesJoin_own : ownKnob Tryd.prog.godebug = none := by kernel_rfl
theorem namesJoin_laidmet (os : Os) : laidMetH Tryd.prog Rows.namesJoinUptoRow.laid ((World.laidAll Tryd.prog os Rows.namesJoinUptoRow.laid).forCall (fun _ _ => 0) ⟨#[], #[.slice none 0 0], []⟩).memory := by
  rw [MakeChecks.laidMetH_plain _ _ _ (by kernel_rfl)]; exact laidMet_laidAll _ (by kernel_rfl) (by kernel_rfl)
theorem namesJoin_reads (os : Os) {H : Type} (enc : TypeId × Value → H) : ∃ x, DataW.whole enc Tryd.prog ((World.laidAll Tryd.prog os Rows.namesJoinUptoRow.laid).forCall (fun _ _ => 0) ⟨#[], #[.slice none 0 0], []⟩).memory Tryd.f4.params.toList Rows.namesJoinSpec.vars false #[.slice none 0 0].toList 8 = some x ∧ Rows.uptoSmall H (x.1 ++ x.2.1) = true :=
  ⟨_, rfl, by kernel_rfl⟩
theorem namesJoin_lifted (os : Os) (started : os.Started) (H : Type) (enc : TypeId × Value → H) (F : Stop.Interp) :
    ReturnsInHanded {} Tryd.checked os 4 .any ((Rows.OpenSpec.upto Rows.namesJoinSpec).preRow enc Tryd.prog Tryd.f4 Rows.namesJoinUptoRow.domain false Rows.namesJoinUptoRow.laid) (((Rows.OpenSpec.upto Rows.namesJoinSpec).at F).post enc Tryd.prog Tryd.f4 false true false false) := by
  obtain ⟨x, hx, hxs⟩ := namesJoin_reads os enc
  refine returnsInHanded_of_row (C := Tryd.checked) (s := (Rows.OpenSpec.upto Rows.namesJoinSpec)) namesJoin_own started (by kernel_rfl) Tryd.func4
    (witness_row_at (enc := enc) (C := Tryd.checked) false (World.laidAll Tryd.prog os Rows.namesJoinUptoRow.laid) #[.slice none 0 0] (World.laidAll_os _ _ _) (by kernel_rfl) (by kernel_rfl) (by kernel_rfl)
      (OpenSpec.preRow_of_cond 8 hx (by kernel_rfl) (fun k hk => by cases hk; exact hxs) (by kernel_rfl) (namesJoin_laidmet os))) ?_
  intro W base args ds gs before hval0 hW _ hcond _ _ hsh _
  have hW' := hW
  obtain ⟨p, q, hA0, hV, rfl, _, _⟩ := hW
  have hA : DataW.TrodAll enc Tryd.prog W 0 (fun _ => true) true Tryd.f4.params.toList args.toList ds p := hA0
  rw [Tryd.params4] at hA
  obtain ⟨v0, d0, rfl, rfl, hd0⟩ := trodAll_one hA
  have o0 := hval0 0 _ _ (by rw [Tryd.params4]; rfl) rfl
  have r0 := RdT.of hd0
  obtain ⟨rfl, rfl⟩ := trodVars_none hV
  refine (namesJoin_law W hsh o0 r0 hd0 (hcond _ rfl)).mono fun e W' ⟨he, hb⟩ => ?_
  subst he
  exact ⟨_, rfl, _, _, _, _, _, _, hW', trodAll_mk1 (shut_bool Tryd.underlying4 _), trodAll_mk1 (Below.trod (P := Tryd.prog) fact1 (by kernel_rfl) (of_decide_eq_true (by kernel_rfl)) hd0 hb (namesJoin_blocks hd0)), rfl, hb.frame _, fun h => by cases h⟩

theorem namesJoin_p0 : (Rows.namesJoinUptoRow.wf (OpenSpec.ofChange (Rows.OpenSpec.upto Rows.namesJoinSpec).bare)) = true := by kernel_rfl
theorem namesJoin_p3 : (Tryd.f4.params.all (Tryd.pinned.checked.prog.readableRec ·)) = true := by kernel_rfl
theorem namesJoin_p4 : (namedTie Tryd.pinned.checked.prog Rows.namesJoinUptoRow.named Rows.namesJoinSpec.vars) = true := by kernel_rfl
theorem namesJoin_p5 : ((Rows.namesJoinUptoRow.stops == [])) = true := by kernel_rfl
theorem namesJoin_p7 : ((Rows.namesJoinUptoRow.knobs == [])) = true := by kernel_rfl
theorem namesJoin_p9 : ((Rows.namesJoinUptoRow.inPlace == Tryd.pinned.checked.prog.inPlace 4)) = true := by kernel_rfl
theorem namesJoin_p10 : ((Rows.namesJoinUptoRow.unfollowed == Tryd.pinned.checked.prog.unfollowed 4)) = true := by kernel_rfl
theorem namesJoin_p11 : ((Rows.namesJoinUptoRow.recurses == Tryd.pinned.checked.prog.recurses 4)) = true := by kernel_rfl
theorem namesJoin_p12 : ((Rows.namesJoinUptoRow.named == Tryd.pinned.checked.prog.varsNamed 4)) = true := by kernel_rfl
theorem namesJoin_p13 : ((Rows.namesJoinUptoRow.maps == (Tryd.f4.params.toList ++ Rows.namesJoinSpec.plain.varTypes Tryd.pinned.checked.prog).any (Tryd.pinned.checked.prog.mapsRec ·))) = true := by kernel_rfl
theorem namesJoin_p14 : ((Rows.namesJoinUptoRow.ifaces == (Tryd.f4.params.toList ++ Rows.namesJoinSpec.plain.varTypes Tryd.pinned.checked.prog).any (Tryd.pinned.checked.prog.ifacesRec ·))) = true := by kernel_rfl
theorem namesJoin_p15 : ((Rows.namesJoinUptoRow.mapsOut == Tryd.pinned.checked.prog.mapsAmong Tryd.f4.resultTypes.toList)) = true := by kernel_rfl
theorem namesJoin_p16 : ((Rows.namesJoinUptoRow.loops == (Tryd.f4.params.toList ++ Rows.namesJoinSpec.plain.varTypes Tryd.pinned.checked.prog).any (Tryd.pinned.checked.prog.loopsFrom ·))) = true := by kernel_rfl
theorem namesJoin_p17 : ((Rows.namesJoinUptoRow.wideKeys == (Tryd.f4.params.toList ++ Rows.namesJoinSpec.plain.varTypes Tryd.pinned.checked.prog ++ Tryd.f4.resultTypes.toList).any (Tryd.pinned.checked.prog.wideKeysFrom ·))) = true := by kernel_rfl
theorem namesJoin_p18 : (Rows.namesJoinSpec.vars.all (Tryd.pinned.checked.prog.varReadable ·)) = true := by kernel_rfl
theorem namesJoin_p19 : (Tryd.f4.resultTypes.all (fun t => Tryd.pinned.checked.prog.readableRec t && decide (t < Tryd.pinned.checked.prog.types.size))) = true := by kernel_rfl
theorem namesJoin_p20 : ((Rows.namesJoinUptoRow.ifacesOut == Tryd.f4.resultTypes.toList.any (Tryd.pinned.checked.prog.ifacesRec ·))) = true := by kernel_rfl
theorem namesJoin_p21 : ((Rows.namesJoinUptoRow.loopsOut == Tryd.f4.resultTypes.toList.any (Tryd.pinned.checked.prog.loopsFrom ·))) = true := by kernel_rfl
theorem namesJoin_p23 : (Rows.namesJoinUptoRow.shortTexts.isNone) = true := by kernel_rfl
theorem namesJoin_p28 : ((Rows.namesJoinUptoRow.kinds == (if Rows.namesJoinUptoRow.domain.isEmpty then [] else Tryd.f4.params.toList.map fun t => match Tryd.pinned.checked.prog.underlying t with | some (.int k) => some k | _ => none))) = true := by kernel_rfl
theorem namesJoin_p29 : ((Rows.namesJoinUptoRow.pinned == Rows.namesJoinUptoRow.pinnedBy)) = true := by kernel_rfl
theorem namesJoin_p30 : ((Rows.namesJoinUptoRow.veiled == (Tryd.f4.params.toList ++ Rows.namesJoinSpec.plain.varTypes Tryd.pinned.checked.prog ++ Tryd.f4.resultTypes.toList).any (Tryd.pinned.checked.prog.veiledRec ·))) = true := by kernel_rfl
theorem namesJoin_p31 : (Rows.namesJoinUptoRow.veiledFits Tryd.pinned.checked.prog Tryd.f4.params.toList (Tryd.f4.params.toList ++ Rows.namesJoinSpec.plain.varTypes Tryd.pinned.checked.prog ++ Tryd.f4.resultTypes.toList)) = true := by kernel_rfl

theorem namesJoin_joined : joinedFacts Tryd.pinned.checked.prog 4 Tryd.f4 (Rows.OpenSpec.upto Rows.namesJoinSpec).bare Rows.namesJoinUptoRow = true :=
  joinedFacts_mk namesJoin_p0 fact1 fact2 namesJoin_p3 namesJoin_p4 namesJoin_p5 fact6 namesJoin_p7 fact8 namesJoin_p9 namesJoin_p10 namesJoin_p11 namesJoin_p12 namesJoin_p13 namesJoin_p14 namesJoin_p15 namesJoin_p16 namesJoin_p17 namesJoin_p18 namesJoin_p19 namesJoin_p20 namesJoin_p21 fact22 namesJoin_p23 fact24 fact25 fact26 fact27 namesJoin_p28 namesJoin_p29 namesJoin_p30 namesJoin_p31

theorem namesJoin_named : Tryd.pinned.checked.prog.funcNamed Rows.namesJoinUptoRow.func = some 4 := by kernel_rfl
theorem namesJoin_instance : Tryd.f4.isInstance Tryd.pinned.checked.prog Rows.namesJoinUptoRow.origin Rows.namesJoinUptoRow.targs := of_decide_eq_true (by kernel_rfl)
theorem namesJoin_wrapper : Tryd.f4.isWrapper Tryd.pinned.checked.prog Rows.namesJoinUptoRow.wrapper Rows.namesJoinUptoRow.mainSum := by unfold Func.isWrapper; first | (rw [if_pos (by decide +kernel)]; kernel_rfl) | (rw [if_neg (by decide +kernel)]; exact ⟨rfl, rfl⟩)
theorem namesJoin_wf : Rows.namesJoinUptoRow.wfByText (Rows.OpenSpec.upto Rows.namesJoinSpec) = true := by kernel_rfl
theorem namesJoin_goes : false = Rows.namesJoinUptoRow.goesBy Tryd.pinned.checked.prog := by kernel_rfl

theorem namesJoin_holds : Rows.namesJoinUptoRow.holds Tryd.pinned (Rows.OpenSpec.upto Rows.namesJoinSpec) :=
  OpenClaim.holds_of_cond 4 Tryd.f4 rfl rfl rfl rfl rfl rfl rfl ⟨rfl, rfl, rfl, rfl, rfl⟩ rfl rfl rfl rfl rfl namesJoin_named Tryd.func4 namesJoin_joined
    namesJoin_instance namesJoin_wrapper
    (fun os started H enc _ F => by rw [OpenClaim.pre_eq_preRow]; exact namesJoin_lifted os started H enc F)

theorem namesJoinUpto_card : Rows.NamesJoinUptoCardSaid :=
  Claim7.holds_tied_plain_at .later [] [.data, .pinned] true (true, "d816627b2ae0baf26f24d7b8848545fff235d33b422c6ccc3e0906bae9e4138d") false namesJoin_holds (fun _ h => by cases h) namesJoin_wf (fun _ h => by cases h) namesJoinUpto_row_tie rfl ⟨rfl, rfl⟩ factMain rfl
    (fun f fn hf hfn => by
      obtain rfl : f = 4 := Option.some.inj (namesJoin_named.symm.trans hf) |>.symm
      obtain rfl : fn = Tryd.f4 := (Option.some.inj (Tryd.func4.symm.trans hfn)).symm
      refine ⟨factLooks, fun j t ht => ?_⟩
      rw [Tryd.params4] at ht
      revert ht
      match j with
      | 0 => intro ht; cases ht; kernel_rfl
      | j + 1 => intro ht; simp at ht)
    namesJoin_goes
#print axioms namesJoinUpto_card
end Go.Proofs.YtncmgiddcefpcaaDoor
