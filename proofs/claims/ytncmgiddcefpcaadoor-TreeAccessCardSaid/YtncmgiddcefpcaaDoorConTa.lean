/- TreeAccess: what its hierarchies are. No program in sight. -/
import Derived.Test.YtncmgiddcefpcaaDoorEvM4
namespace Go.Con
open Go Hi
set_option linter.unusedSimpArgs false
set_option linter.unusedVariables false
def nmB : ByteArray := ⟨#[98]⟩
def nmC : ByteArray := ⟨#[99]⟩
def segU (u : Int) (l : List Tm) (b : Bk) : Bn := ⟨1, u, 0, ByteArray.empty, false, l, b⟩
/-- Two segments; the first may have one more name. -/
def taT (l : List Tm) (b : Bk) (ext : List ByteArray) : Hi := ⟨[segU 1 l b, segU 2 [] noBk], [⟨0, 0, nmB⟩, ⟨0, 1, nmC⟩] ++ ext.map fun n => ⟨0, 0, n⟩, [true]⟩
theorem ta_one : newHi.add 0 nmB (segU 1 [] noBk) = (⟨[segU 1 [] noBk], [⟨0, 0, nmB⟩], [true]⟩, 0, 0) := by rfl
theorem ta_two : (⟨[segU 1 [] noBk], [⟨0, 0, nmB⟩], [true]⟩ : Hi).add 0 nmC (segU 2 [] noBk) = (taT [] noBk [], 0, 0) := by rfl
theorem ta_br (l : List Tm) (b : Bk) (ext : List ByteArray) : (taT l b ext).br 0 = segU 1 l b ∧ (taT l b ext).br 1 = segU 2 [] noBk := ⟨rfl, rfl⟩
theorem ta_get (l : List Tm) (b : Bk) (ext : List ByteArray) : (taT l b ext).get 0 nmB = some 0 := by rfl
theorem ta_name (m : ByteArray) : (taT [] noBk []).name 0 nmB m = if mayN m = false then (taT [] noBk [], 3) else if m = nmB ∨ m = nmC then (taT [] noBk [], 5) else (taT [] noBk [m], 0) := by
  unfold Hi.name
  rw [ta_get]
  have hg : ((taT [] noBk []).get 0 m).isSome = (decide (m = nmB) || decide (m = nmC)) := by
    unfold Hi.get Hi.getF taT
    simp only [List.map_nil, List.append_nil, List.find?_cons, En.key, Prod.mk.injEq, true_and]
    by_cases h1 : nmB = m
    · subst h1; simp
    · have h1' : ¬ m = nmB := fun e => h1 e.symm
      by_cases h2 : nmC = m
      · subst h2; simp [h1]
      · have h2' : ¬ m = nmC := fun e => h2 e.symm
        simp [h1, h2, h1', h2']
  simp only
  cases hm : mayN m with
  | false => simp
  | true =>
    rw [hg]
    by_cases h1 : m = nmB
    · simp [h1]
    · by_cases h2 : m = nmC
      · simp [h2]
      · simp only [h1, h2, decide_false, Bool.or_self, or_self, if_false, Bool.false_eq_true, Bool.true_eq_false]
        rfl
theorem ta_access (l l' : List Tm) (b : Bk) (ext : List ByteArray) : (taT l b ext).access 0 nmB l' = if listMay l' = true then (taT l' b ext, 0) else (taT l b ext, 1) := by
  unfold Hi.access
  rw [ta_get]
  simp only [(ta_br l b ext).1]
  rw [if_neg (show ¬ (segU 1 l b).kind ≠ 1 from fun h => h rfl)]
  cases hm : listMay l' with
  | false => simp
  | true => simp only [Bool.true_eq_false, if_false, if_true]; rfl
theorem ta_ringed (l : List Tm) (b b' : Bk) (ext : List ByteArray) : (taT l b ext).ringed 0 nmB b' = if bkMay b' = true then (taT l b' ext, 0) else (taT l b ext, 1) := by
  unfold Hi.ringed
  rw [ta_get]
  simp only [(ta_br l b ext).1]
  rw [if_neg (show ¬ (segU 1 l b).kind ≠ 1 from fun h => h rfl)]
  cases hm : bkMay b' with
  | false => simp
  | true => simp only [Bool.true_eq_false, if_false, if_true]; rfl
theorem ta_uid1 (l : List Tm) (b : Bk) (ext : List ByteArray) : (taT l b ext).byUID 1 = some (segU 1 l b) := by rfl
theorem ta_uid2 (l : List Tm) (b : Bk) (ext : List ByteArray) : (taT l b ext).byUID 2 = some (segU 2 [] noBk) := by rfl
theorem ta_look (l : List Tm) (b : Bk) {m : ByteArray} (h1 : m ≠ nmB) (h2 : m ≠ nmC) : (taT l b [m]).look 0 m = some (segU 1 l b) := by
  unfold Hi.look Hi.get Hi.getF taT
  have h1' : ¬ nmB = m := fun e => h1 e.symm
  have h2' : ¬ nmC = m := fun e => h2 e.symm
  simp [En.key, h1', h2', Hi.br]
end Go.Con
