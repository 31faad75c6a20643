/- WalkWalks: true, at every input; the input reads as it did. No condition. -/
import Derived.Test.YtncmgiddcefpcaaGreatDoorBin13
import Derived.Test.YtncmgiddcefpcaaGreatDoorTie
import Derived.Test.YtncmgiddcefpcaaGreatDoorCards
import Derived.Test.YtncmgiddcefpcaaGreatDoorChecked
import Derived.ProofKit
import Derived.Lay
import Derived.LaidOnce
import Derived.SevenTiedAt
import Derived.ChangeMaps5
import Derived.Carry
import Derived.Deep.DeepHandedRow
import Derived.ChangeOld
namespace Go.Proofs.YtncmgiddcefpcaaGreatDoor
open Go Go.Ev Go.RowKit Go.ChangeShapes Go.WideShapes Go.ChangeAt
set_option maxRecDepth 100000

theorem walkWalks_blocks {H : Type} {enc : TypeId × Value → H} {W : World} {t : TypeId} {v : Value} {d : DataW H} {ps : List MemPlace} (h : DataW.Trod enc Tryz.prog W 0 (fun _ => true) true t v d ps) : ∀ x ∈ ps, x.block < W.heap.size := by
  obtain ⟨f, hf⟩ := h; exact DataW.trod_lt f _ _ _ hf
theorem walkWalks_own : ownKnob Tryz.prog.godebug = none := by kernel_rfl
theorem walkWalks_lifted (os : Os) (started : os.Started) (H : Type) (enc : TypeId × Value → H) :
    ReturnsInHanded {} Tryz.checked os 4 .any (fun w args => (Rows.walkWalksSpec.pre enc Tryz.prog Tryz.f4 [] false w args ∧ laidMetH Tryz.prog Rows.walkWalksRow.laid w) ∧ sizedMet enc Tryz.prog Tryz.f4 (OpenSpec.ofChange Rows.walkWalksSpec) false w args)
      (Rows.walkWalksSpec.post enc Tryz.prog Tryz.f4 false true false false) := by
  refine returnsInHanded_of_change_and_shaped (C := Tryz.checked) (X := fun w _ => laidMetH Tryz.prog Rows.walkWalksRow.laid w) (fun _ _ _ hh h => h.of_heap hh) walkWalks_own started (by kernel_rfl) Tryz.func4
    (ChangeSpec.witness_shaped (enc := enc) (C := Tryz.checked) (os := os) (X := fun w _ => laidMetH Tryz.prog Rows.walkWalksRow.laid w) false (World.laidAll Tryz.prog os Rows.walkWalksRow.laid) #[Value.slice none 0 0, Value.slice none 0 0, Value.int .i64 0] 8 (World.laidAll_os _ _ _)
      (World.shaped_of_ZipB (by kernel_rfl) (by kernel_rfl)) (by kernel_rfl) (by kernel_rfl) (by kernel_rfl)
      (by rw [MakeChecks.laidMetH_plain _ _ _ (by kernel_rfl)]; exact laidMet_laidAll _ (by kernel_rfl) (by kernel_rfl))) ?_
  intro W base args ds gs before hval0 hW _ _ _ hsh
  have hW' := hW
  obtain ⟨p, q, hA0, hV, rfl, _, _⟩ := hW
  have hA : DataW.TrodAll enc Tryz.prog W 0 (fun _ => true) true Tryz.f4.params.toList args.toList ds p := hA0
  rw [Tryz.params4] at hA
  obtain ⟨v0, v1, v2, d0, d1, d2, p0, p1, p2, rfl, rfl, rfl, hd0, hd1, hd2⟩ := trodAll_three hA
  have o0 := hval0 0 _ _ (by rw [Tryz.params4]; rfl) rfl
  have r0 := RdT.of hd0
  have o1 := hval0 1 _ _ (by rw [Tryz.params4]; rfl) rfl
  have r1 := RdT.of hd1
  have o2 := hval0 2 _ _ (by rw [Tryz.params4]; rfl) rfl
  have r2 := RdT.of hd2
  obtain ⟨rfl, rfl⟩ := trodVars_none hV
  refine (walkWalks_law W hsh o0 r0 o1 r1 o2 r2).mono fun e W' ⟨he, hb⟩ => ?_
  subst he
  exact ⟨_, rfl, _, _, _, _, _, _, hW', trodAll_mk1 (shut_bool Tryz.underlying4 _), trodAll_mk3 (Below.trod (P := Tryz.prog) fact1 (by kernel_rfl) (of_decide_eq_true (by kernel_rfl)) hd0 hb (walkWalks_blocks hd0)) (Below.trod (P := Tryz.prog) fact1 (by kernel_rfl) (of_decide_eq_true (by kernel_rfl)) hd1 hb (walkWalks_blocks hd1)) (Below.trod (P := Tryz.prog) fact1 (by kernel_rfl) (of_decide_eq_true (by kernel_rfl)) hd2 hb (walkWalks_blocks hd2)), rfl, hb.frame _, fun h => by cases h⟩

theorem walkWalks_p0 : (Rows.walkWalksRow.wf (OpenSpec.ofChange Rows.walkWalksSpec)) = true := by kernel_rfl
theorem walkWalks_p3 : (Tryz.f4.params.all (Tryz.pinned.checked.prog.readableRec ·)) = true := by kernel_rfl
theorem walkWalks_p4 : (namedTie Tryz.pinned.checked.prog Rows.walkWalksRow.named Rows.walkWalksSpec.vars) = true := by kernel_rfl
theorem walkWalks_p5 : ((Rows.walkWalksRow.stops == [])) = true := by kernel_rfl
theorem walkWalks_p7 : ((Rows.walkWalksRow.knobs == [])) = true := by kernel_rfl
theorem walkWalks_p9 : ((Rows.walkWalksRow.inPlace == Tryz.pinned.checked.prog.inPlace 4)) = true := by kernel_rfl
theorem walkWalks_p10 : ((Rows.walkWalksRow.unfollowed == Tryz.pinned.checked.prog.unfollowed 4)) = true := by kernel_rfl
theorem walkWalks_p11 : ((Rows.walkWalksRow.recurses == Tryz.pinned.checked.prog.recurses 4)) = true := by kernel_rfl
theorem walkWalks_p12 : ((Rows.walkWalksRow.named == Tryz.pinned.checked.prog.varsNamed 4)) = true := by kernel_rfl
theorem walkWalks_p13 : ((Rows.walkWalksRow.maps == (Tryz.f4.params.toList ++ Rows.walkWalksSpec.plain.varTypes Tryz.pinned.checked.prog).any (Tryz.pinned.checked.prog.mapsRec ·))) = true := by kernel_rfl
theorem walkWalks_p14 : ((Rows.walkWalksRow.ifaces == (Tryz.f4.params.toList ++ Rows.walkWalksSpec.plain.varTypes Tryz.pinned.checked.prog).any (Tryz.pinned.checked.prog.ifacesRec ·))) = true := by kernel_rfl
theorem walkWalks_p15 : ((Rows.walkWalksRow.mapsOut == Tryz.pinned.checked.prog.mapsAmong Tryz.f4.resultTypes.toList)) = true := by kernel_rfl
theorem walkWalks_p16 : ((Rows.walkWalksRow.loops == (Tryz.f4.params.toList ++ Rows.walkWalksSpec.plain.varTypes Tryz.pinned.checked.prog).any (Tryz.pinned.checked.prog.loopsFrom ·))) = true := by kernel_rfl
theorem walkWalks_p17 : ((Rows.walkWalksRow.wideKeys == (Tryz.f4.params.toList ++ Rows.walkWalksSpec.plain.varTypes Tryz.pinned.checked.prog ++ Tryz.f4.resultTypes.toList).any (Tryz.pinned.checked.prog.wideKeysFrom ·))) = true := by kernel_rfl
theorem walkWalks_p18 : (Rows.walkWalksSpec.vars.all (Tryz.pinned.checked.prog.varReadable ·)) = true := by kernel_rfl
theorem walkWalks_p19 : (Tryz.f4.resultTypes.all (fun t => Tryz.pinned.checked.prog.readableRec t && decide (t < Tryz.pinned.checked.prog.types.size))) = true := by kernel_rfl
theorem walkWalks_p20 : ((Rows.walkWalksRow.ifacesOut == Tryz.f4.resultTypes.toList.any (Tryz.pinned.checked.prog.ifacesRec ·))) = true := by kernel_rfl
theorem walkWalks_p21 : ((Rows.walkWalksRow.loopsOut == Tryz.f4.resultTypes.toList.any (Tryz.pinned.checked.prog.loopsFrom ·))) = true := by kernel_rfl
theorem walkWalks_p23 : (Rows.walkWalksRow.shortTexts.isNone) = true := by kernel_rfl
theorem walkWalks_p28 : ((Rows.walkWalksRow.kinds == (if Rows.walkWalksRow.domain.isEmpty then [] else Tryz.f4.params.toList.map fun t => match Tryz.pinned.checked.prog.underlying t with | some (.int k) => some k | _ => none))) = true := by kernel_rfl
theorem walkWalks_p29 : ((Rows.walkWalksRow.pinned == Rows.walkWalksRow.pinnedBy)) = true := by kernel_rfl
theorem walkWalks_p30 : ((Rows.walkWalksRow.veiled == (Tryz.f4.params.toList ++ Rows.walkWalksSpec.plain.varTypes Tryz.pinned.checked.prog ++ Tryz.f4.resultTypes.toList).any (Tryz.pinned.checked.prog.veiledRec ·))) = true := by kernel_rfl
theorem walkWalks_p31 : (Rows.walkWalksRow.veiledFits Tryz.pinned.checked.prog Tryz.f4.params.toList (Tryz.f4.params.toList ++ Rows.walkWalksSpec.plain.varTypes Tryz.pinned.checked.prog ++ Tryz.f4.resultTypes.toList)) = true := by kernel_rfl

theorem walkWalks_joined : joinedFacts Tryz.pinned.checked.prog 4 Tryz.f4 Rows.walkWalksSpec Rows.walkWalksRow = true :=
  joinedFacts_mk walkWalks_p0 fact1 fact2 walkWalks_p3 walkWalks_p4 walkWalks_p5 fact6 walkWalks_p7 fact8 walkWalks_p9 walkWalks_p10 walkWalks_p11 walkWalks_p12 walkWalks_p13 walkWalks_p14 walkWalks_p15 walkWalks_p16 walkWalks_p17 walkWalks_p18 walkWalks_p19 walkWalks_p20 walkWalks_p21 fact22 walkWalks_p23 fact24 fact25 fact26 fact27 walkWalks_p28 walkWalks_p29 walkWalks_p30 walkWalks_p31

theorem walkWalks_named : Tryz.pinned.checked.prog.funcNamed Rows.walkWalksRow.func = some 4 := by kernel_rfl
theorem walkWalks_instance : Tryz.f4.isInstance Tryz.pinned.checked.prog Rows.walkWalksRow.origin Rows.walkWalksRow.targs := of_decide_eq_true (by kernel_rfl)
theorem walkWalks_wrapper : Tryz.f4.isWrapper Tryz.pinned.checked.prog Rows.walkWalksRow.wrapper Rows.walkWalksRow.mainSum := by unfold Func.isWrapper; first | (rw [if_pos (by decide +kernel)]; kernel_rfl) | (rw [if_neg (by decide +kernel)]; exact ⟨rfl, rfl⟩)
theorem walkWalks_wf : Rows.walkWalksRow.wfByText (OpenSpec.ofChange Rows.walkWalksSpec) = true := by kernel_rfl
theorem walkWalks_goes : false = Rows.walkWalksRow.goesBy Tryz.pinned.checked.prog := by kernel_rfl

theorem walkWalks_holds : Rows.walkWalksRow.holds Tryz.pinned (OpenSpec.ofChange Rows.walkWalksSpec) :=
  OpenClaim.holds_of_wide 4 Tryz.f4 rfl rfl rfl rfl rfl rfl rfl ⟨rfl, rfl, rfl, rfl, rfl⟩ rfl rfl rfl rfl rfl walkWalks_named Tryz.func4 walkWalks_joined
    walkWalks_instance walkWalks_wrapper
    (fun os started H enc _ => walkWalks_lifted os started H enc)

theorem walkWalks_card : Rows.WalkWalksCardSaid :=
  Claim7.holds_tied_plain_at .later [] [.data, .pinned] true (true, "e273f5272d88c497d37e9d766c9a4909ddf1804e3d7dd54ce4e691371479e93c") false walkWalks_holds (fun _ h => by cases h) walkWalks_wf (fun _ h => by cases h) walkWalks_row_tie rfl ⟨rfl, rfl⟩ factMain rfl
    (fun f fn hf hfn => by
      obtain rfl : f = 4 := Option.some.inj (walkWalks_named.symm.trans hf) |>.symm
      obtain rfl : fn = Tryz.f4 := (Option.some.inj (Tryz.func4.symm.trans hfn)).symm
      refine ⟨factLooks, fun j t ht => ?_⟩
      rw [Tryz.params4] at ht
      revert ht
      match j with
      | 0 => intro ht; cases ht; kernel_rfl
      | 1 => intro ht; cases ht; kernel_rfl
      | 2 => intro ht; cases ht; kernel_rfl
      | j + 3 => intro ht; simp at ht)
    walkWalks_goes
#print axioms walkWalks_card
end Go.Proofs.YtncmgiddcefpcaaGreatDoor
