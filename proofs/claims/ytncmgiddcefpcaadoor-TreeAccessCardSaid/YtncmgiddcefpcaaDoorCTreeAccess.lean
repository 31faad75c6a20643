/- TreeAccess: true, at every input; the input reads as it did. No condition. -/
import Derived.Test.YtncmgiddcefpcaaDoorLawTreeAccess
import Derived.Test.YtncmgiddcefpcaaDoorFacts
import Derived.Test.YtncmgiddcefpcaaDoorTie
import Derived.Test.YtncmgiddcefpcaaDoorCards
import Derived.Test.YtncmgiddcefpcaaDoorChecked
import Derived.ProofKit
import Derived.Lay
import Derived.LaidOnce
import Derived.SevenTiedAt
import Derived.ChangeMaps5
import Derived.Carry
import Derived.Deep.DeepHandedRow
import Derived.ChangeOld
namespace Go.Proofs.YtncmgiddcefpcaaDoor
open Go Go.Ev Go.RowKit Go.ChangeShapes Go.WideShapes Go.ChangeAt
set_option maxRecDepth 100000

theorem treeAccess_blocks {H : Type} {enc : TypeId × Value → H} {W : World} {t : TypeId} {v : Value} {d : DataW H} {ps : List MemPlace} (h : DataW.Trod enc Tryd.prog W 0 (fun _ => true) true t v d ps) : ∀ x ∈ ps, x.block < W.heap.size := by
  obtain ⟨f, hf⟩ := h; exact DataW.trod_lt f _ _ _ hf
theorem treeAccess_own : ownKnob Tryd.prog.godebug = none := by kernel_rfl
theorem treeAccess_lifted (os : Os) (started : os.Started) (H : Type) (enc : TypeId × Value → H) :
    ReturnsInHanded {} Tryd.checked os 8 .any (fun w args => (Rows.treeAccessSpec.pre enc Tryd.prog Tryd.f8 [] false w args ∧ laidMetH Tryd.prog Rows.treeAccessRow.laid w) ∧ sizedMet enc Tryd.prog Tryd.f8 (OpenSpec.ofChange Rows.treeAccessSpec) false w args)
      (Rows.treeAccessSpec.post enc Tryd.prog Tryd.f8 false true false false) := by
  refine returnsInHanded_of_change_and_shaped (C := Tryd.checked) (X := fun w _ => laidMetH Tryd.prog Rows.treeAccessRow.laid w) (fun _ _ _ hh h => h.of_heap hh) treeAccess_own started (by kernel_rfl) Tryd.func8
    (ChangeSpec.witness_shaped (enc := enc) (C := Tryd.checked) (os := os) (X := fun w _ => laidMetH Tryd.prog Rows.treeAccessRow.laid w) false (World.laidAll Tryd.prog os Rows.treeAccessRow.laid) #[Value.slice none 0 0, Value.agg #[.int .i64 0, .int .i64 0, .int .i64 0, .int .i64 0], Value.string ByteArray.empty] 8 (World.laidAll_os _ _ _)
      (World.shaped_of_ZipB (by kernel_rfl) (by kernel_rfl)) (by kernel_rfl) (by kernel_rfl) (by kernel_rfl)
      (by rw [MakeChecks.laidMetH_plain _ _ _ (by kernel_rfl)]; exact laidMet_laidAll _ (by kernel_rfl) (by kernel_rfl))) ?_
  intro W base args ds gs before hval0 hW _ _ _ hsh
  have hW' := hW
  obtain ⟨p, q, hA0, hV, rfl, _, _⟩ := hW
  have hA : DataW.TrodAll enc Tryd.prog W 0 (fun _ => true) true Tryd.f8.params.toList args.toList ds p := hA0
  rw [Tryd.params8] at hA
  obtain ⟨v0, v1, v2, d0, d1, d2, p0, p1, p2, rfl, rfl, rfl, hd0, hd1, hd2⟩ := trodAll_three hA
  have o0 := hval0 0 _ _ (by rw [Tryd.params8]; rfl) rfl
  have r0 := RdT.of hd0
  have o1 := hval0 1 _ _ (by rw [Tryd.params8]; rfl) rfl
  have r1 := RdT.of hd1
  have o2 := hval0 2 _ _ (by rw [Tryd.params8]; rfl) rfl
  have r2 := RdT.of hd2
  obtain ⟨rfl, rfl⟩ := trodVars_none hV
  refine (treeAccess_law W hsh o0 r0 o1 r1 o2 r2).mono fun e W' ⟨he, hb⟩ => ?_
  subst he
  exact ⟨_, rfl, _, _, _, _, _, _, hW', trodAll_mk1 (shut_bool Tryd.underlying4 _), trodAll_mk3 (Below.trod (P := Tryd.prog) fact1 (by kernel_rfl) (of_decide_eq_true (by kernel_rfl)) hd0 hb (treeAccess_blocks hd0)) (Below.trod (P := Tryd.prog) fact1 (by kernel_rfl) (of_decide_eq_true (by kernel_rfl)) hd1 hb (treeAccess_blocks hd1)) (Below.trod (P := Tryd.prog) fact1 (by kernel_rfl) (of_decide_eq_true (by kernel_rfl)) hd2 hb (treeAccess_blocks hd2)), rfl, hb.frame _, fun h => by cases h⟩

theorem treeAccess_p0 : (Rows.treeAccessRow.wf (OpenSpec.ofChange Rows.treeAccessSpec)) = true := by kernel_rfl
theorem treeAccess_p3 : (Tryd.f8.params.all (Tryd.pinned.checked.prog.readableRec ·)) = true := by kernel_rfl
theorem treeAccess_p4 : (namedTie Tryd.pinned.checked.prog Rows.treeAccessRow.named Rows.treeAccessSpec.vars) = true := by kernel_rfl
theorem treeAccess_p5 : ((Rows.treeAccessRow.stops == [])) = true := by kernel_rfl
theorem treeAccess_p7 : ((Rows.treeAccessRow.knobs == [])) = true := by kernel_rfl
theorem treeAccess_p9 : ((Rows.treeAccessRow.inPlace == Tryd.pinned.checked.prog.inPlace 8)) = true := by kernel_rfl
theorem treeAccess_p10 : ((Rows.treeAccessRow.unfollowed == Tryd.pinned.checked.prog.unfollowed 8)) = true := by kernel_rfl
theorem treeAccess_p11 : ((Rows.treeAccessRow.recurses == Tryd.pinned.checked.prog.recurses 8)) = true := by kernel_rfl
theorem treeAccess_p12 : ((Rows.treeAccessRow.named == Tryd.pinned.checked.prog.varsNamed 8)) = true := by kernel_rfl
theorem treeAccess_p13 : ((Rows.treeAccessRow.maps == (Tryd.f8.params.toList ++ Rows.treeAccessSpec.plain.varTypes Tryd.pinned.checked.prog).any (Tryd.pinned.checked.prog.mapsRec ·))) = true := by kernel_rfl
theorem treeAccess_p14 : ((Rows.treeAccessRow.ifaces == (Tryd.f8.params.toList ++ Rows.treeAccessSpec.plain.varTypes Tryd.pinned.checked.prog).any (Tryd.pinned.checked.prog.ifacesRec ·))) = true := by kernel_rfl
theorem treeAccess_p15 : ((Rows.treeAccessRow.mapsOut == Tryd.pinned.checked.prog.mapsAmong Tryd.f8.resultTypes.toList)) = true := by kernel_rfl
theorem treeAccess_p16 : ((Rows.treeAccessRow.loops == (Tryd.f8.params.toList ++ Rows.treeAccessSpec.plain.varTypes Tryd.pinned.checked.prog).any (Tryd.pinned.checked.prog.loopsFrom ·))) = true := by kernel_rfl
theorem treeAccess_p17 : ((Rows.treeAccessRow.wideKeys == (Tryd.f8.params.toList ++ Rows.treeAccessSpec.plain.varTypes Tryd.pinned.checked.prog ++ Tryd.f8.resultTypes.toList).any (Tryd.pinned.checked.prog.wideKeysFrom ·))) = true := by kernel_rfl
theorem treeAccess_p18 : (Rows.treeAccessSpec.vars.all (Tryd.pinned.checked.prog.varReadable ·)) = true := by kernel_rfl
theorem treeAccess_p19 : (Tryd.f8.resultTypes.all (fun t => Tryd.pinned.checked.prog.readableRec t && decide (t < Tryd.pinned.checked.prog.types.size))) = true := by kernel_rfl
theorem treeAccess_p20 : ((Rows.treeAccessRow.ifacesOut == Tryd.f8.resultTypes.toList.any (Tryd.pinned.checked.prog.ifacesRec ·))) = true := by kernel_rfl
theorem treeAccess_p21 : ((Rows.treeAccessRow.loopsOut == Tryd.f8.resultTypes.toList.any (Tryd.pinned.checked.prog.loopsFrom ·))) = true := by kernel_rfl
theorem treeAccess_p23 : (Rows.treeAccessRow.shortTexts.isNone) = true := by kernel_rfl
theorem treeAccess_p28 : ((Rows.treeAccessRow.kinds == (if Rows.treeAccessRow.domain.isEmpty then [] else Tryd.f8.params.toList.map fun t => match Tryd.pinned.checked.prog.underlying t with | some (.int k) => some k | _ => none))) = true := by kernel_rfl
theorem treeAccess_p29 : ((Rows.treeAccessRow.pinned == Rows.treeAccessRow.pinnedBy)) = true := by kernel_rfl
theorem treeAccess_p30 : ((Rows.treeAccessRow.veiled == (Tryd.f8.params.toList ++ Rows.treeAccessSpec.plain.varTypes Tryd.pinned.checked.prog ++ Tryd.f8.resultTypes.toList).any (Tryd.pinned.checked.prog.veiledRec ·))) = true := by kernel_rfl
theorem treeAccess_p31 : (Rows.treeAccessRow.veiledFits Tryd.pinned.checked.prog Tryd.f8.params.toList (Tryd.f8.params.toList ++ Rows.treeAccessSpec.plain.varTypes Tryd.pinned.checked.prog ++ Tryd.f8.resultTypes.toList)) = true := by kernel_rfl

theorem treeAccess_joined : joinedFacts Tryd.pinned.checked.prog 8 Tryd.f8 Rows.treeAccessSpec Rows.treeAccessRow = true :=
  joinedFacts_mk treeAccess_p0 fact1 fact2 treeAccess_p3 treeAccess_p4 treeAccess_p5 fact6 treeAccess_p7 fact8 treeAccess_p9 treeAccess_p10 treeAccess_p11 treeAccess_p12 treeAccess_p13 treeAccess_p14 treeAccess_p15 treeAccess_p16 treeAccess_p17 treeAccess_p18 treeAccess_p19 treeAccess_p20 treeAccess_p21 fact22 treeAccess_p23 fact24 fact25 fact26 fact27 treeAccess_p28 treeAccess_p29 treeAccess_p30 treeAccess_p31

theorem treeAccess_named : Tryd.pinned.checked.prog.funcNamed Rows.treeAccessRow.func = some 8 := by kernel_rfl
theorem treeAccess_instance : Tryd.f8.isInstance Tryd.pinned.checked.prog Rows.treeAccessRow.origin Rows.treeAccessRow.targs := of_decide_eq_true (by kernel_rfl)
theorem treeAccess_wrapper : Tryd.f8.isWrapper Tryd.pinned.checked.prog Rows.treeAccessRow.wrapper Rows.treeAccessRow.mainSum := by unfold Func.isWrapper; first | (rw [if_pos (by decide +kernel)]; kernel_rfl) | (rw [if_neg (by decide +kernel)]; exact ⟨rfl, rfl⟩)
theorem treeAccess_wf : Rows.treeAccessRow.wfByText (OpenSpec.ofChange Rows.treeAccessSpec) = true := by kernel_rfl
theorem treeAccess_goes : false = Rows.treeAccessRow.goesBy Tryd.pinned.checked.prog := by kernel_rfl

theorem treeAccess_holds : Rows.treeAccessRow.holds Tryd.pinned (OpenSpec.ofChange Rows.treeAccessSpec) :=
  OpenClaim.holds_of_wide 8 Tryd.f8 rfl rfl rfl rfl rfl rfl rfl ⟨rfl, rfl, rfl, rfl, rfl⟩ rfl rfl rfl rfl rfl treeAccess_named Tryd.func8 treeAccess_joined
    treeAccess_instance treeAccess_wrapper
    (fun os started H enc _ => treeAccess_lifted os started H enc)

theorem treeAccess_card : Rows.TreeAccessCardSaid :=
  Claim7.holds_tied_plain_at .later [] [.data, .pinned] true (true, "d816627b2ae0baf26f24d7b8848545fff235d33b422c6ccc3e0906bae9e4138d") false treeAccess_holds (fun _ h => by cases h) treeAccess_wf (fun _ h => by cases h) treeAccess_row_tie rfl ⟨rfl, rfl⟩ factMain rfl
    (fun f fn hf hfn => by
      obtain rfl : f = 8 := Option.some.inj (treeAccess_named.symm.trans hf) |>.symm
      obtain rfl : fn = Tryd.f8 := (Option.some.inj (Tryd.func8.symm.trans hfn)).symm
      refine ⟨factLooks, fun j t ht => ?_⟩
      rw [Tryd.params8] at ht
      revert ht
      match j with
      | 0 => intro ht; cases ht; kernel_rfl
      | 1 => intro ht; cases ht; kernel_rfl
      | 2 => intro ht; cases ht; kernel_rfl
      | j + 3 => intro ht; simp at ht)
    treeAccess_goes
#print axioms treeAccess_card
end Go.Proofs.YtncmgiddcefpcaaDoor
