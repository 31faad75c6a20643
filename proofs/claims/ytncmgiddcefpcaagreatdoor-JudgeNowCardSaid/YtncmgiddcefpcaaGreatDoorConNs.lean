/- The summary of tree.Names holds: the library's sort by its contract. -/
import Derived.Test.YtncmgiddcefpcaaGreatDoorConNm
import Derived.Test.YtncmgiddcefpcaaGreatDoorShelf
import Derived.Shelf.SlSortCmp.NoneTotal
namespace Go.Proofs.YtncmgiddcefpcaaGreatDoor
open Go Go.Ev Go.RowKit Go.Sort Go.Proofs Go.Shelf Go.Lib
set_option linter.unusedSimpArgs false
set_option linter.unusedVariables false
set_option maxRecDepth 100000

theorem nil_walk (d : Int) (w : World) : Calls Tryz.prog 73 #[.pointer none, .int .i64 d] w fun e w' => e = .returned (.slice none 0 0) ∧ Below w.heap.size w w' := by
  go_enter Tryz.func73, Tryz.ntmps73
  go_wp2
  go_ret
  exact ⟨rfl, Below.refl _ _⟩
theorem swo_bytes : SWO (ltOf Lib.compareBytes) := by
  have h : ∀ x y, ltOf Lib.compareBytes x y = decide (x < y) := fun x y => by
    unfold ltOf
    rw [Bool.eq_iff_iff]
    have := Go.Con.cmp_lt x y
    simp [this]
  refine { irrefl := fun x => ?_, trans := fun x y z h1 h2 => ?_, ntrans := fun x y z h1 h2 => ?_ }
  · rw [h]; simp [List.lt_irrefl]
  · rw [h] at *
    simp only [decide_eq_true_eq] at *
    exact List.lt_trans h1 h2
  · rw [h] at *
    simp only [decide_eq_false_iff_not, List.not_lt] at *
    exact List.le_trans h2 h1
theorem sort_ok : SortOK := by
  intro blk cap ss w cur hb ht hc hl
  have eg : ∀ args w, (callFunc 101 args).run Tryz.prog w = .ok (.enter 101 args) w := enters_of Tryz.func101 (by kernel_rfl) rfl
  have hcmp : CmpReads Tryz.prog 101 #[] encStr Lib.compareBytes blk 0 ss.toArray.size w := fun m os dk _ x y => (clos_walk _ _ _).mono fun e w' he => ⟨he.1, 0, he.2⟩
  have hcon := Tryz.slices_SortFunc encStr (fun _ => rfl) Lib.compareBytes swo_bytes 101 #[] blk 0 cap ss.toArray w eg hcmp.lays (holds_of_block hb ht) (Array.getElem?_eq_some_iff.1 hb).1 (by simpa using hl)
  have e1 : ss.toArray.size = ss.length := by simp
  rw [e1] at hcon
  refine hcon.mono fun e w' he => ?_
  obtain ⟨rfl, d', n, os, hp, hs, rfl⟩ := he
  refine ⟨rfl, n, os, ?_⟩
  have : d' = (sortB ss).toArray := by
    obtain ⟨hz, _, hpm⟩ := hp
    rw [e1] at hz
    have ed : d'.extract 0 ss.length = d' := by rw [← hz]; simp
    have es : ss.toArray.extract 0 ss.length = ss.toArray := by simp
    rw [ed, es] at hpm
    have hsorted : d'.toList.Pairwise fun a b => ¬ b < a := by
      rw [List.pairwise_iff_getElem]
      intro i j hi hj hij
      rw [Array.length_toList] at hi hj
      have := hs i j (Nat.zero_le _) hij (by omega)
      rw [getElem!_pos d' j hj, getElem!_pos d' i hi] at this
      unfold ltOf at this
      intro hlt
      have h2 := (Go.Con.cmp_lt d'[j] d'[i]).2 hlt
      simp [h2] at this
    have := sortB_uniq hpm hsorted
    rw [← this]
  rw [this]; rfl
theorem sort_nil : SortNil := fun w => (AnyF.slices_SortFunc_none { Tryz.laysSlF6_f100 with } none 0 _ w).mono fun e w' he => ⟨he.1, by rw [he.2]; exact Below.refl _ _⟩
theorem names_sum {I : Inv} : SumOK Tryz.prog I 73 (sumNames 9) := sumNames_ok (by kernel_rfl) nil_walk (names_walk sort_ok sort_nil)
end Go.Proofs.YtncmgiddcefpcaaGreatDoor
