/- TreeKnown: true, at every call (it has no arguments); the input reads as it did. No condition. -/
import Derived.Test.YtncmgiddcefpcaaDoorCtx
import Derived.Test.YtncmgiddcefpcaaDoorFacts
import Derived.Test.YtncmgiddcefpcaaDoorTie
import Derived.Test.YtncmgiddcefpcaaDoorCards
import Derived.Test.YtncmgiddcefpcaaDoorChecked
import Derived.ProofKit
import Derived.Lay
import Derived.LaidOnce
import Derived.SevenTiedAt
namespace Go.Proofs.YtncmgiddcefpcaaDoor
open Go Go.Ev Go.RowKit Go.ChangeShapes Go.WideShapes Go.ChangeAt
set_option maxRecDepth 100000

theorem treeKnown_value : (evCall ctx 200 21 [] h0).map (·.1) = some (.bool true) := by kernel_rfl

theorem treeKnown_law (W : World) (h : W.ShapedOpen Tryd.prog) : Calls Tryd.prog 21 #[] W fun e w' => e = .returned (.bool true) ∧ Below W.heap.size W w' :=
  closed_bool (C := ctx) (ctx_from h) ctx_mix treeKnown_value

theorem treeKnown_own : ownKnob Tryd.prog.godebug = none := by kernel_rfl
theorem treeKnown_lifted (os : Os) (started : os.Started) (H : Type) (enc : TypeId × Value → H) :
    ReturnsInHanded {} Tryd.checked os 21 .any (fun w args => (Rows.treeKnownSpec.pre enc Tryd.prog Tryd.f21 [] false w args ∧ laidMetH Tryd.prog Rows.treeKnownRow.laid w) ∧ sizedMet enc Tryd.prog Tryd.f21 (OpenSpec.ofChange Rows.treeKnownSpec) false w args)
      (Rows.treeKnownSpec.post enc Tryd.prog Tryd.f21 false true false false) := by
  refine returnsInHanded_of_change_and_shaped (C := Tryd.checked) (X := fun w _ => laidMetH Tryd.prog Rows.treeKnownRow.laid w) (fun _ _ _ hh h => h.of_heap hh) treeKnown_own started (by kernel_rfl) Tryd.func21
    (ChangeSpec.witness_shaped (enc := enc) (C := Tryd.checked) (os := os) (X := fun w _ => laidMetH Tryd.prog Rows.treeKnownRow.laid w) false (World.laidAll Tryd.prog os Rows.treeKnownRow.laid) #[] 8 (World.laidAll_os _ _ _)
      (World.shaped_of_ZipB (by kernel_rfl) (by kernel_rfl)) (by kernel_rfl) (by kernel_rfl) (by kernel_rfl)
      (by rw [MakeChecks.laidMetH_plain _ _ _ (by kernel_rfl)]; exact laidMet_laidAll _ (by kernel_rfl) (by kernel_rfl))) ?_
  intro W base args ds gs before hval0 hW _ _ _ hsh
  have hW' := hW
  obtain ⟨p, q, hA0, hV, rfl, _, _⟩ := hW
  have hA : DataW.TrodAll enc Tryd.prog W 0 (fun _ => true) true Tryd.f21.params.toList args.toList ds p := hA0
  rw [Tryd.params21] at hA
  obtain ⟨rfl, rfl, rfl⟩ := trodAll_none hA
  obtain ⟨rfl, rfl⟩ := trodVars_none hV
  refine (treeKnown_law W hsh).mono fun e W' ⟨he, hb⟩ => ?_
  subst he
  exact ⟨_, rfl, _, _, _, [], [], [], hW', trodAll_mk1 (shut_bool Tryd.underlying4 _), hA, rfl, hb.frame _, fun h => by cases h⟩

theorem treeKnown_p0 : (Rows.treeKnownRow.wf (OpenSpec.ofChange Rows.treeKnownSpec)) = true := by kernel_rfl
theorem treeKnown_p3 : (Tryd.f21.params.all (Tryd.pinned.checked.prog.readableRec ·)) = true := by kernel_rfl
theorem treeKnown_p4 : (namedTie Tryd.pinned.checked.prog Rows.treeKnownRow.named Rows.treeKnownSpec.vars) = true := by kernel_rfl
theorem treeKnown_p5 : ((Rows.treeKnownRow.stops == [])) = true := by kernel_rfl
theorem treeKnown_p7 : ((Rows.treeKnownRow.knobs == [])) = true := by kernel_rfl
theorem treeKnown_p9 : ((Rows.treeKnownRow.inPlace == Tryd.pinned.checked.prog.inPlace 21)) = true := by kernel_rfl
theorem treeKnown_p10 : ((Rows.treeKnownRow.unfollowed == Tryd.pinned.checked.prog.unfollowed 21)) = true := by kernel_rfl
theorem treeKnown_p11 : ((Rows.treeKnownRow.recurses == Tryd.pinned.checked.prog.recurses 21)) = true := by kernel_rfl
theorem treeKnown_p12 : ((Rows.treeKnownRow.named == Tryd.pinned.checked.prog.varsNamed 21)) = true := by kernel_rfl
theorem treeKnown_p13 : ((Rows.treeKnownRow.maps == (Tryd.f21.params.toList ++ Rows.treeKnownSpec.plain.varTypes Tryd.pinned.checked.prog).any (Tryd.pinned.checked.prog.mapsRec ·))) = true := by kernel_rfl
theorem treeKnown_p14 : ((Rows.treeKnownRow.ifaces == (Tryd.f21.params.toList ++ Rows.treeKnownSpec.plain.varTypes Tryd.pinned.checked.prog).any (Tryd.pinned.checked.prog.ifacesRec ·))) = true := by kernel_rfl
theorem treeKnown_p15 : ((Rows.treeKnownRow.mapsOut == Tryd.pinned.checked.prog.mapsAmong Tryd.f21.resultTypes.toList)) = true := by kernel_rfl
theorem treeKnown_p16 : ((Rows.treeKnownRow.loops == (Tryd.f21.params.toList ++ Rows.treeKnownSpec.plain.varTypes Tryd.pinned.checked.prog).any (Tryd.pinned.checked.prog.loopsFrom ·))) = true := by kernel_rfl
theorem treeKnown_p17 : ((Rows.treeKnownRow.wideKeys == (Tryd.f21.params.toList ++ Rows.treeKnownSpec.plain.varTypes Tryd.pinned.checked.prog ++ Tryd.f21.resultTypes.toList).any (Tryd.pinned.checked.prog.wideKeysFrom ·))) = true := by kernel_rfl
theorem treeKnown_p18 : (Rows.treeKnownSpec.vars.all (Tryd.pinned.checked.prog.varReadable ·)) = true := by kernel_rfl
theorem treeKnown_p19 : (Tryd.f21.resultTypes.all (fun t => Tryd.pinned.checked.prog.readableRec t && decide (t < Tryd.pinned.checked.prog.types.size))) = true := by kernel_rfl
theorem treeKnown_p20 : ((Rows.treeKnownRow.ifacesOut == Tryd.f21.resultTypes.toList.any (Tryd.pinned.checked.prog.ifacesRec ·))) = true := by kernel_rfl
theorem treeKnown_p21 : ((Rows.treeKnownRow.loopsOut == Tryd.f21.resultTypes.toList.any (Tryd.pinned.checked.prog.loopsFrom ·))) = true := by kernel_rfl
theorem treeKnown_p23 : (Rows.treeKnownRow.shortTexts.isNone) = true := by kernel_rfl
theorem treeKnown_p28 : ((Rows.treeKnownRow.kinds == (if Rows.treeKnownRow.domain.isEmpty then [] else Tryd.f21.params.toList.map fun t => match Tryd.pinned.checked.prog.underlying t with | some (.int k) => some k | _ => none))) = true := by kernel_rfl
theorem treeKnown_p29 : ((Rows.treeKnownRow.pinned == Rows.treeKnownRow.pinnedBy)) = true := by kernel_rfl
theorem treeKnown_p30 : ((Rows.treeKnownRow.veiled == (Tryd.f21.params.toList ++ Rows.treeKnownSpec.plain.varTypes Tryd.pinned.checked.prog ++ Tryd.f21.resultTypes.toList).any (Tryd.pinned.checked.prog.veiledRec ·))) = true := by kernel_rfl
theorem treeKnown_p31 : (Rows.treeKnownRow.veiledFits Tryd.pinned.checked.prog Tryd.f21.params.toList (Tryd.f21.params.toList ++ Rows.treeKnownSpec.plain.varTypes Tryd.pinned.checked.prog ++ Tryd.f21.resultTypes.toList)) = true := by kernel_rfl

theorem treeKnown_joined : joinedFacts Tryd.pinned.checked.prog 21 Tryd.f21 Rows.treeKnownSpec Rows.treeKnownRow = true :=
  joinedFacts_mk treeKnown_p0 fact1 fact2 treeKnown_p3 treeKnown_p4 treeKnown_p5 fact6 treeKnown_p7 fact8 treeKnown_p9 treeKnown_p10 treeKnown_p11 treeKnown_p12 treeKnown_p13 treeKnown_p14 treeKnown_p15 treeKnown_p16 treeKnown_p17 treeKnown_p18 treeKnown_p19 treeKnown_p20 treeKnown_p21 fact22 treeKnown_p23 fact24 fact25 fact26 fact27 treeKnown_p28 treeKnown_p29 treeKnown_p30 treeKnown_p31

theorem treeKnown_named : Tryd.pinned.checked.prog.funcNamed Rows.treeKnownRow.func = some 21 := by kernel_rfl
theorem treeKnown_instance : Tryd.f21.isInstance Tryd.pinned.checked.prog Rows.treeKnownRow.origin Rows.treeKnownRow.targs := of_decide_eq_true (by kernel_rfl)
theorem treeKnown_wrapper : Tryd.f21.isWrapper Tryd.pinned.checked.prog Rows.treeKnownRow.wrapper Rows.treeKnownRow.mainSum := by unfold Func.isWrapper; first | (rw [if_pos (by decide +kernel)]; kernel_rfl) | (rw [if_neg (by decide +kernel)]; exact ⟨rfl, rfl⟩)
theorem treeKnown_wf : Rows.treeKnownRow.wfByText (OpenSpec.ofChange Rows.treeKnownSpec) = true := by kernel_rfl
theorem treeKnown_goes : false = Rows.treeKnownRow.goesBy Tryd.pinned.checked.prog := by kernel_rfl

theorem treeKnown_holds : Rows.treeKnownRow.holds Tryd.pinned (OpenSpec.ofChange Rows.treeKnownSpec) :=
  OpenClaim.holds_of_wide 21 Tryd.f21 rfl rfl rfl rfl rfl rfl rfl ⟨rfl, rfl, rfl, rfl, rfl⟩ rfl rfl rfl rfl rfl treeKnown_named Tryd.func21 treeKnown_joined
    treeKnown_instance treeKnown_wrapper
    (fun os started H enc _ => treeKnown_lifted os started H enc)

theorem treeKnown_card : Rows.TreeKnownCardSaid :=
  Claim7.holds_tied_plain_at .later [] [.data, .pinned] true (true, "d816627b2ae0baf26f24d7b8848545fff235d33b422c6ccc3e0906bae9e4138d") false treeKnown_holds (fun _ h => by cases h) treeKnown_wf (fun _ h => by cases h) treeKnown_row_tie rfl ⟨rfl, rfl⟩ factMain rfl
    (fun f fn hf hfn => by
      obtain rfl : f = 21 := Option.some.inj (treeKnown_named.symm.trans hf) |>.symm
      obtain rfl : fn = Tryd.f21 := (Option.some.inj (Tryd.func21.symm.trans hfn)).symm
      exact ⟨factLooks, fun j t ht => by
        rw [Tryd.params21] at ht
        simp at ht⟩)
    treeKnown_goes
#print axioms treeKnown_card
end Go.Proofs.YtncmgiddcefpcaaDoor
