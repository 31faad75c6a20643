/- WalkLinks: true, at every input; the input reads as it did. No condition. -/
import Derived.Test.YtncmgiddcefpcaaDoorLawWalkLinks
import Derived.Test.YtncmgiddcefpcaaDoorFacts
import Derived.Test.YtncmgiddcefpcaaDoorTie
import Derived.Test.YtncmgiddcefpcaaDoorCards
import Derived.Test.YtncmgiddcefpcaaDoorChecked
import Derived.ProofKit
import Derived.Lay
import Derived.LaidOnce
import Derived.SevenTiedAt
import Derived.ChangeMaps5
namespace Go.Proofs.YtncmgiddcefpcaaDoor
open Go Go.Ev Go.RowKit Go.ChangeShapes Go.WideShapes Go.ChangeAt
set_option maxRecDepth 100000

theorem walkLinks_law (W : World) (h : W.ShapedOpen Tryd.prog) (c0 : UInt8) (b1 : Bool) : Calls Tryd.prog 9 #[.int .u8 (c0.toNat : Int), .bool b1] W fun e w' => e = .returned (.bool true) ∧ Below W.heap.size W w' :=
  closed_meets (kon_from0 h) kon_mix (args := [.int .u8 (c0.toNat : Int), .bool b1]) rfl (walkLinks_true c0 b1)

theorem walkLinks_own : ownKnob Tryd.prog.godebug = none := by kernel_rfl
theorem walkLinks_lifted (os : Os) (started : os.Started) (H : Type) (enc : TypeId × Value → H) :
    ReturnsInHanded {} Tryd.checked os 9 .any (fun w args => (Rows.walkLinksSpec.pre enc Tryd.prog Tryd.f9 [] false w args ∧ laidMetH Tryd.prog Rows.walkLinksRow.laid w) ∧ sizedMet enc Tryd.prog Tryd.f9 (OpenSpec.ofChange Rows.walkLinksSpec) false w args)
      (Rows.walkLinksSpec.post enc Tryd.prog Tryd.f9 false true false false) := by
  refine returnsInHanded_of_change_and_shaped (C := Tryd.checked) (X := fun w _ => laidMetH Tryd.prog Rows.walkLinksRow.laid w) (fun _ _ _ hh h => h.of_heap hh) walkLinks_own started (by kernel_rfl) Tryd.func9
    (ChangeSpec.witness_shaped (enc := enc) (C := Tryd.checked) (os := os) (X := fun w _ => laidMetH Tryd.prog Rows.walkLinksRow.laid w) false (World.laidAll Tryd.prog os Rows.walkLinksRow.laid) #[.int .u8 0, .bool false] 8 (World.laidAll_os _ _ _)
      (World.shaped_of_ZipB (by kernel_rfl) (by kernel_rfl)) (by kernel_rfl) (by kernel_rfl) (by kernel_rfl)
      (by rw [MakeChecks.laidMetH_plain _ _ _ (by kernel_rfl)]; exact laidMet_laidAll _ (by kernel_rfl) (by kernel_rfl))) ?_
  intro W base args ds gs before hval0 hW _ _ _ hsh
  have hW' := hW
  obtain ⟨p, q, hA0, hV, rfl, _, _⟩ := hW
  have hA : DataW.TrodAll enc Tryd.prog W 0 (fun _ => true) true Tryd.f9.params.toList args.toList ds p := hA0
  rw [Tryd.params9] at hA
  obtain ⟨v0, v1, d0, d1, p0, p1, rfl, rfl, rfl, hd0, hd1⟩ := trodAll_two hA
  obtain ⟨n0, rfl, rfl, rfl, hn0⟩ := open_int (P := Tryd.prog) Tryd.underlying5 (hval0 0 _ _ (by rw [Tryd.params9]; rfl) rfl) hd0
  obtain ⟨c0, rfl⟩ := u8_of hn0
  obtain ⟨b1, rfl, rfl, rfl⟩ := Go.RowKit.open_bool (P := Tryd.prog) Tryd.underlying4 (hval0 1 _ _ (by rw [Tryd.params9]; rfl) rfl) hd1
  obtain ⟨rfl, rfl⟩ := trodVars_none hV
  refine (walkLinks_law W hsh c0 b1).mono fun e W' ⟨he, hb⟩ => ?_
  subst he
  exact ⟨_, rfl, _, _, _, _, _, _, hW', trodAll_mk1 (shut_bool Tryd.underlying4 _), trodAll_mk2 (shut_int Tryd.underlying5 hn0) (Go.RowKit.shut_bool Tryd.underlying4 _), rfl, hb.frame _, fun h => by cases h⟩

theorem walkLinks_p0 : (Rows.walkLinksRow.wf (OpenSpec.ofChange Rows.walkLinksSpec)) = true := by kernel_rfl
theorem walkLinks_p3 : (Tryd.f9.params.all (Tryd.pinned.checked.prog.readableRec ·)) = true := by kernel_rfl
theorem walkLinks_p4 : (namedTie Tryd.pinned.checked.prog Rows.walkLinksRow.named Rows.walkLinksSpec.vars) = true := by kernel_rfl
theorem walkLinks_p5 : ((Rows.walkLinksRow.stops == [])) = true := by kernel_rfl
theorem walkLinks_p7 : ((Rows.walkLinksRow.knobs == [])) = true := by kernel_rfl
theorem walkLinks_p9 : ((Rows.walkLinksRow.inPlace == Tryd.pinned.checked.prog.inPlace 9)) = true := by kernel_rfl
theorem walkLinks_p10 : ((Rows.walkLinksRow.unfollowed == Tryd.pinned.checked.prog.unfollowed 9)) = true := by kernel_rfl
theorem walkLinks_p11 : ((Rows.walkLinksRow.recurses == Tryd.pinned.checked.prog.recurses 9)) = true := by kernel_rfl
theorem walkLinks_p12 : ((Rows.walkLinksRow.named == Tryd.pinned.checked.prog.varsNamed 9)) = true := by kernel_rfl
theorem walkLinks_p13 : ((Rows.walkLinksRow.maps == (Tryd.f9.params.toList ++ Rows.walkLinksSpec.plain.varTypes Tryd.pinned.checked.prog).any (Tryd.pinned.checked.prog.mapsRec ·))) = true := by kernel_rfl
theorem walkLinks_p14 : ((Rows.walkLinksRow.ifaces == (Tryd.f9.params.toList ++ Rows.walkLinksSpec.plain.varTypes Tryd.pinned.checked.prog).any (Tryd.pinned.checked.prog.ifacesRec ·))) = true := by kernel_rfl
theorem walkLinks_p15 : ((Rows.walkLinksRow.mapsOut == Tryd.pinned.checked.prog.mapsAmong Tryd.f9.resultTypes.toList)) = true := by kernel_rfl
theorem walkLinks_p16 : ((Rows.walkLinksRow.loops == (Tryd.f9.params.toList ++ Rows.walkLinksSpec.plain.varTypes Tryd.pinned.checked.prog).any (Tryd.pinned.checked.prog.loopsFrom ·))) = true := by kernel_rfl
theorem walkLinks_p17 : ((Rows.walkLinksRow.wideKeys == (Tryd.f9.params.toList ++ Rows.walkLinksSpec.plain.varTypes Tryd.pinned.checked.prog ++ Tryd.f9.resultTypes.toList).any (Tryd.pinned.checked.prog.wideKeysFrom ·))) = true := by kernel_rfl
theorem walkLinks_p18 : (Rows.walkLinksSpec.vars.all (Tryd.pinned.checked.prog.varReadable ·)) = true := by kernel_rfl
theorem walkLinks_p19 : (Tryd.f9.resultTypes.all (fun t => Tryd.pinned.checked.prog.readableRec t && decide (t < Tryd.pinned.checked.prog.types.size))) = true := by kernel_rfl
theorem walkLinks_p20 : ((Rows.walkLinksRow.ifacesOut == Tryd.f9.resultTypes.toList.any (Tryd.pinned.checked.prog.ifacesRec ·))) = true := by kernel_rfl
theorem walkLinks_p21 : ((Rows.walkLinksRow.loopsOut == Tryd.f9.resultTypes.toList.any (Tryd.pinned.checked.prog.loopsFrom ·))) = true := by kernel_rfl
theorem walkLinks_p23 : (Rows.walkLinksRow.shortTexts.isNone) = true := by kernel_rfl
theorem walkLinks_p28 : ((Rows.walkLinksRow.kinds == (if Rows.walkLinksRow.domain.isEmpty then [] else Tryd.f9.params.toList.map fun t => match Tryd.pinned.checked.prog.underlying t with | some (.int k) => some k | _ => none))) = true := by kernel_rfl
theorem walkLinks_p29 : ((Rows.walkLinksRow.pinned == Rows.walkLinksRow.pinnedBy)) = true := by kernel_rfl
theorem walkLinks_p30 : ((Rows.walkLinksRow.veiled == (Tryd.f9.params.toList ++ Rows.walkLinksSpec.plain.varTypes Tryd.pinned.checked.prog ++ Tryd.f9.resultTypes.toList).any (Tryd.pinned.checked.prog.veiledRec ·))) = true := by kernel_rfl
theorem walkLinks_p31 : (Rows.walkLinksRow.veiledFits Tryd.pinned.checked.prog Tryd.f9.params.toList (Tryd.f9.params.toList ++ Rows.walkLinksSpec.plain.varTypes Tryd.pinned.checked.prog ++ Tryd.f9.resultTypes.toList)) = true := by kernel_rfl

theorem walkLinks_joined : joinedFacts Tryd.pinned.checked.prog 9 Tryd.f9 Rows.walkLinksSpec Rows.walkLinksRow = true :=
  joinedFacts_mk walkLinks_p0 fact1 fact2 walkLinks_p3 walkLinks_p4 walkLinks_p5 fact6 walkLinks_p7 fact8 walkLinks_p9 walkLinks_p10 walkLinks_p11 walkLinks_p12 walkLinks_p13 walkLinks_p14 walkLinks_p15 walkLinks_p16 walkLinks_p17 walkLinks_p18 walkLinks_p19 walkLinks_p20 walkLinks_p21 fact22 walkLinks_p23 fact24 fact25 fact26 fact27 walkLinks_p28 walkLinks_p29 walkLinks_p30 walkLinks_p31

theorem walkLinks_named : Tryd.pinned.checked.prog.funcNamed Rows.walkLinksRow.func = some 9 := by kernel_rfl
theorem walkLinks_instance : Tryd.f9.isInstance Tryd.pinned.checked.prog Rows.walkLinksRow.origin Rows.walkLinksRow.targs := of_decide_eq_true (by kernel_rfl)
theorem walkLinks_wrapper : Tryd.f9.isWrapper Tryd.pinned.checked.prog Rows.walkLinksRow.wrapper Rows.walkLinksRow.mainSum := by unfold Func.isWrapper; first | (rw [if_pos (by decide +kernel)]; kernel_rfl) | (rw [if_neg (by decide +kernel)]; exact ⟨rfl, rfl⟩)
theorem walkLinks_wf : Rows.walkLinksRow.wfByText (OpenSpec.ofChange Rows.walkLinksSpec) = true := by kernel_rfl
theorem walkLinks_goes : false = Rows.walkLinksRow.goesBy Tryd.pinned.checked.prog := by kernel_rfl

theorem walkLinks_holds : Rows.walkLinksRow.holds Tryd.pinned (OpenSpec.ofChange Rows.walkLinksSpec) :=
  OpenClaim.holds_of_wide 9 Tryd.f9 rfl rfl rfl rfl rfl rfl rfl ⟨rfl, rfl, rfl, rfl, rfl⟩ rfl rfl rfl rfl rfl walkLinks_named Tryd.func9 walkLinks_joined
    walkLinks_instance walkLinks_wrapper
    (fun os started H enc _ => walkLinks_lifted os started H enc)

theorem walkLinks_card : Rows.WalkLinksCardSaid :=
  Claim7.holds_tied_plain_at .later [] [.data, .pinned] true (true, "d816627b2ae0baf26f24d7b8848545fff235d33b422c6ccc3e0906bae9e4138d") false walkLinks_holds (fun _ h => by cases h) walkLinks_wf (fun _ h => by cases h) walkLinks_row_tie rfl ⟨rfl, rfl⟩ factMain rfl
    (fun f fn hf hfn => by
      obtain rfl : f = 9 := Option.some.inj (walkLinks_named.symm.trans hf) |>.symm
      obtain rfl : fn = Tryd.f9 := (Option.some.inj (Tryd.func9.symm.trans hfn)).symm
      refine ⟨factLooks, fun j t ht => ?_⟩
      rw [Tryd.params9] at ht
      revert ht
      match j with
      | 0 => intro ht; cases ht; kernel_rfl
      | 1 => intro ht; cases ht; kernel_rfl
      | j + 2 => intro ht; simp at ht)
    walkLinks_goes
#print axioms walkLinks_card
end Go.Proofs.YtncmgiddcefpcaaDoor
