/- NamesSigns: true, at every input; the input reads as it did. No condition. -/
import Derived.Test.YtncmgiddcefpcaaDoorLawNamesSigns
import Derived.Test.YtncmgiddcefpcaaDoorFacts
import Derived.Test.YtncmgiddcefpcaaDoorTie
import Derived.Test.YtncmgiddcefpcaaDoorCards
import Derived.Test.YtncmgiddcefpcaaDoorChecked
import Derived.ProofKit
import Derived.Lay
import Derived.LaidOnce
import Derived.SevenTiedAt
import Derived.ChangeMaps5
namespace Go.Proofs.YtncmgiddcefpcaaDoor
open Go Go.Ev Go.RowKit Go.ChangeShapes Go.WideShapes Go.ChangeAt
set_option maxRecDepth 100000

theorem namesSigns_law (W : World) (h : W.ShapedOpen Tryd.prog) (c0 : UInt8) (c1 : UInt8) (c2 : UInt8) : Calls Tryd.prog 7 #[.int .u8 (c0.toNat : Int), .int .u8 (c1.toNat : Int), .int .u8 (c2.toNat : Int)] W fun e w' => e = .returned (.bool true) ∧ Below W.heap.size W w' :=
  open_call (kon_from h) kon_mix (args := [.int .u8 (c0.toNat : Int), .int .u8 (c1.toNat : Int), .int .u8 (c2.toNat : Int)]) (abs := [.int .u8 (c0.toNat : Int), .int .u8 (c1.toNat : Int), .int .u8 (c2.toNat : Int)]) rfl (namesSigns_true c0 c1 c2 _)

theorem namesSigns_own : ownKnob Tryd.prog.godebug = none := by kernel_rfl
theorem namesSigns_lifted (os : Os) (started : os.Started) (H : Type) (enc : TypeId × Value → H) :
    ReturnsInHanded {} Tryd.checked os 7 .any (fun w args => (Rows.namesSignsSpec.pre enc Tryd.prog Tryd.f7 [] false w args ∧ laidMetH Tryd.prog Rows.namesSignsRow.laid w) ∧ sizedMet enc Tryd.prog Tryd.f7 (OpenSpec.ofChange Rows.namesSignsSpec) false w args)
      (Rows.namesSignsSpec.post enc Tryd.prog Tryd.f7 false true false false) := by
  refine returnsInHanded_of_change_and_shaped (C := Tryd.checked) (X := fun w _ => laidMetH Tryd.prog Rows.namesSignsRow.laid w) (fun _ _ _ hh h => h.of_heap hh) namesSigns_own started (by kernel_rfl) Tryd.func7
    (ChangeSpec.witness_shaped (enc := enc) (C := Tryd.checked) (os := os) (X := fun w _ => laidMetH Tryd.prog Rows.namesSignsRow.laid w) false (World.laidAll Tryd.prog os Rows.namesSignsRow.laid) #[.int .u8 0, .int .u8 0, .int .u8 0] 8 (World.laidAll_os _ _ _)
      (World.shaped_of_ZipB (by kernel_rfl) (by kernel_rfl)) (by kernel_rfl) (by kernel_rfl) (by kernel_rfl)
      (by rw [MakeChecks.laidMetH_plain _ _ _ (by kernel_rfl)]; exact laidMet_laidAll _ (by kernel_rfl) (by kernel_rfl))) ?_
  intro W base args ds gs before hval0 hW _ _ _ hsh
  have hW' := hW
  obtain ⟨p, q, hA0, hV, rfl, _, _⟩ := hW
  have hA : DataW.TrodAll enc Tryd.prog W 0 (fun _ => true) true Tryd.f7.params.toList args.toList ds p := hA0
  rw [Tryd.params7] at hA
  obtain ⟨v0, v1, v2, d0, d1, d2, p0, p1, p2, rfl, rfl, rfl, hd0, hd1, hd2⟩ := trodAll_three hA
  obtain ⟨n0, rfl, rfl, rfl, hn0⟩ := open_int (P := Tryd.prog) Tryd.underlying5 (hval0 0 _ _ (by rw [Tryd.params7]; rfl) rfl) hd0
  obtain ⟨c0, rfl⟩ := u8_of hn0
  obtain ⟨n1, rfl, rfl, rfl, hn1⟩ := open_int (P := Tryd.prog) Tryd.underlying5 (hval0 1 _ _ (by rw [Tryd.params7]; rfl) rfl) hd1
  obtain ⟨c1, rfl⟩ := u8_of hn1
  obtain ⟨n2, rfl, rfl, rfl, hn2⟩ := open_int (P := Tryd.prog) Tryd.underlying5 (hval0 2 _ _ (by rw [Tryd.params7]; rfl) rfl) hd2
  obtain ⟨c2, rfl⟩ := u8_of hn2
  obtain ⟨rfl, rfl⟩ := trodVars_none hV
  refine (namesSigns_law W hsh c0 c1 c2).mono fun e W' ⟨he, hb⟩ => ?_
  subst he
  exact ⟨_, rfl, _, _, _, _, _, _, hW', trodAll_mk1 (shut_bool Tryd.underlying4 _), trodAll_mk3 (shut_int Tryd.underlying5 hn0) (shut_int Tryd.underlying5 hn1) (shut_int Tryd.underlying5 hn2), rfl, hb.frame _, fun h => by cases h⟩

theorem namesSigns_p0 : (Rows.namesSignsRow.wf (OpenSpec.ofChange Rows.namesSignsSpec)) = true := by kernel_rfl
theorem namesSigns_p3 : (Tryd.f7.params.all (Tryd.pinned.checked.prog.readableRec ·)) = true := by kernel_rfl
theorem namesSigns_p4 : (namedTie Tryd.pinned.checked.prog Rows.namesSignsRow.named Rows.namesSignsSpec.vars) = true := by kernel_rfl
theorem namesSigns_p5 : ((Rows.namesSignsRow.stops == [])) = true := by kernel_rfl
theorem namesSigns_p7 : ((Rows.namesSignsRow.knobs == [])) = true := by kernel_rfl
theorem namesSigns_p9 : ((Rows.namesSignsRow.inPlace == Tryd.pinned.checked.prog.inPlace 7)) = true := by kernel_rfl
theorem namesSigns_p10 : ((Rows.namesSignsRow.unfollowed == Tryd.pinned.checked.prog.unfollowed 7)) = true := by kernel_rfl
theorem namesSigns_p11 : ((Rows.namesSignsRow.recurses == Tryd.pinned.checked.prog.recurses 7)) = true := by kernel_rfl
theorem namesSigns_p12 : ((Rows.namesSignsRow.named == Tryd.pinned.checked.prog.varsNamed 7)) = true := by kernel_rfl
theorem namesSigns_p13 : ((Rows.namesSignsRow.maps == (Tryd.f7.params.toList ++ Rows.namesSignsSpec.plain.varTypes Tryd.pinned.checked.prog).any (Tryd.pinned.checked.prog.mapsRec ·))) = true := by kernel_rfl
theorem namesSigns_p14 : ((Rows.namesSignsRow.ifaces == (Tryd.f7.params.toList ++ Rows.namesSignsSpec.plain.varTypes Tryd.pinned.checked.prog).any (Tryd.pinned.checked.prog.ifacesRec ·))) = true := by kernel_rfl
theorem namesSigns_p15 : ((Rows.namesSignsRow.mapsOut == Tryd.pinned.checked.prog.mapsAmong Tryd.f7.resultTypes.toList)) = true := by kernel_rfl
theorem namesSigns_p16 : ((Rows.namesSignsRow.loops == (Tryd.f7.params.toList ++ Rows.namesSignsSpec.plain.varTypes Tryd.pinned.checked.prog).any (Tryd.pinned.checked.prog.loopsFrom ·))) = true := by kernel_rfl
theorem namesSigns_p17 : ((Rows.namesSignsRow.wideKeys == (Tryd.f7.params.toList ++ Rows.namesSignsSpec.plain.varTypes Tryd.pinned.checked.prog ++ Tryd.f7.resultTypes.toList).any (Tryd.pinned.checked.prog.wideKeysFrom ·))) = true := by kernel_rfl
theorem namesSigns_p18 : (Rows.namesSignsSpec.vars.all (Tryd.pinned.checked.prog.varReadable ·)) = true := by kernel_rfl
theorem namesSigns_p19 : (Tryd.f7.resultTypes.all (fun t => Tryd.pinned.checked.prog.readableRec t && decide (t < Tryd.pinned.checked.prog.types.size))) = true := by kernel_rfl
theorem namesSigns_p20 : ((Rows.namesSignsRow.ifacesOut == Tryd.f7.resultTypes.toList.any (Tryd.pinned.checked.prog.ifacesRec ·))) = true := by kernel_rfl
theorem namesSigns_p21 : ((Rows.namesSignsRow.loopsOut == Tryd.f7.resultTypes.toList.any (Tryd.pinned.checked.prog.loopsFrom ·))) = true := by kernel_rfl
theorem namesSigns_p23 : (Rows.namesSignsRow.shortTexts.isNone) = true := by kernel_rfl
theorem namesSigns_p28 : ((Rows.namesSignsRow.kinds == (if Rows.namesSignsRow.domain.isEmpty then [] else Tryd.f7.params.toList.map fun t => match Tryd.pinned.checked.prog.underlying t with | some (.int k) => some k | _ => none))) = true := by kernel_rfl
theorem namesSigns_p29 : ((Rows.namesSignsRow.pinned == Rows.namesSignsRow.pinnedBy)) = true := by kernel_rfl
theorem namesSigns_p30 : ((Rows.namesSignsRow.veiled == (Tryd.f7.params.toList ++ Rows.namesSignsSpec.plain.varTypes Tryd.pinned.checked.prog ++ Tryd.f7.resultTypes.toList).any (Tryd.pinned.checked.prog.veiledRec ·))) = true := by kernel_rfl
theorem namesSigns_p31 : (Rows.namesSignsRow.veiledFits Tryd.pinned.checked.prog Tryd.f7.params.toList (Tryd.f7.params.toList ++ Rows.namesSignsSpec.plain.varTypes Tryd.pinned.checked.prog ++ Tryd.f7.resultTypes.toList)) = true := by kernel_rfl

theorem namesSigns_joined : joinedFacts Tryd.pinned.checked.prog 7 Tryd.f7 Rows.namesSignsSpec Rows.namesSignsRow = true :=
  joinedFacts_mk namesSigns_p0 fact1 fact2 namesSigns_p3 namesSigns_p4 namesSigns_p5 fact6 namesSigns_p7 fact8 namesSigns_p9 namesSigns_p10 namesSigns_p11 namesSigns_p12 namesSigns_p13 namesSigns_p14 namesSigns_p15 namesSigns_p16 namesSigns_p17 namesSigns_p18 namesSigns_p19 namesSigns_p20 namesSigns_p21 fact22 namesSigns_p23 fact24 fact25 fact26 fact27 namesSigns_p28 namesSigns_p29 namesSigns_p30 namesSigns_p31

theorem namesSigns_named : Tryd.pinned.checked.prog.funcNamed Rows.namesSignsRow.func = some 7 := by kernel_rfl
theorem namesSigns_instance : Tryd.f7.isInstance Tryd.pinned.checked.prog Rows.namesSignsRow.origin Rows.namesSignsRow.targs := of_decide_eq_true (by kernel_rfl)
theorem namesSigns_wrapper : Tryd.f7.isWrapper Tryd.pinned.checked.prog Rows.namesSignsRow.wrapper Rows.namesSignsRow.mainSum := by unfold Func.isWrapper; first | (rw [if_pos (by decide +kernel)]; kernel_rfl) | (rw [if_neg (by decide +kernel)]; exact ⟨rfl, rfl⟩)
theorem namesSigns_wf : Rows.namesSignsRow.wfByText (OpenSpec.ofChange Rows.namesSignsSpec) = true := by kernel_rfl
theorem namesSigns_goes : false = Rows.namesSignsRow.goesBy Tryd.pinned.checked.prog := by kernel_rfl

theorem namesSigns_holds : Rows.namesSignsRow.holds Tryd.pinned (OpenSpec.ofChange Rows.namesSignsSpec) :=
  OpenClaim.holds_of_wide 7 Tryd.f7 rfl rfl rfl rfl rfl rfl rfl ⟨rfl, rfl, rfl, rfl, rfl⟩ rfl rfl rfl rfl rfl namesSigns_named Tryd.func7 namesSigns_joined
    namesSigns_instance namesSigns_wrapper
    (fun os started H enc _ => namesSigns_lifted os started H enc)

theorem namesSigns_card : Rows.NamesSignsCardSaid :=
  Claim7.holds_tied_plain_at .later [] [.data, .pinned] true (true, "d816627b2ae0baf26f24d7b8848545fff235d33b422c6ccc3e0906bae9e4138d") false namesSigns_holds (fun _ h => by cases h) namesSigns_wf (fun _ h => by cases h) namesSigns_row_tie rfl ⟨rfl, rfl⟩ factMain rfl
    (fun f fn hf hfn => by
      obtain rfl : f = 7 := Option.some.inj (namesSigns_named.symm.trans hf) |>.symm
      obtain rfl : fn = Tryd.f7 := (Option.some.inj (Tryd.func7.symm.trans hfn)).symm
      refine ⟨factLooks, fun j t ht => ?_⟩
      rw [Tryd.params7] at ht
      revert ht
      match j with
      | 0 => intro ht; cases ht; kernel_rfl
      | 1 => intro ht; cases ht; kernel_rfl
      | 2 => intro ht; cases ht; kernel_rfl
      | j + 3 => intro ht; simp at ht)
    namesSigns_goes
#print axioms namesSigns_card
end Go.Proofs.YtncmgiddcefpcaaDoor
