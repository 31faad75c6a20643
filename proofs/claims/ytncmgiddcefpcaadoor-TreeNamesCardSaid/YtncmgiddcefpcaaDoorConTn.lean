/- TreeNames: what its hierarchies are. No program in sight. -/
import Derived.Test.YtncmgiddcefpcaaDoorEvM4
namespace Go.Con
open Go Hi
set_option linter.unusedSimpArgs false
set_option linter.unusedVariables false

def segN : Bn := ⟨1, 7, 0, ByteArray.empty, false, [⟨star, ⟨true, false, false⟩⟩], ⟨1, 2, 3, 0⟩⟩
/-- The root with one segment of these names. -/
def tn (on : List ByteArray) : Hi := ⟨if on = [] then [] else [segN], on.map fun n => ⟨0, 0, n⟩, [true]⟩
theorem tn_nil : tn [] = newHi := rfl
theorem tn_is : ∀ on, (tn on).is 0 = true := fun _ => rfl
theorem tn_get (on : List ByteArray) (s : ByteArray) : (tn on).get 0 s = if memB on s = true then some 0 else none := by
  unfold Hi.get Hi.getF tn
  rw [List.find?_map]
  induction on with
  | nil => rfl
  | cons a l ih =>
    simp only [List.find?_cons, Function.comp, En.key, Prod.mk.injEq, true_and] at ih ⊢
    by_cases h : a = s
    · subst h; simp [memB]
    · have : decide (a = s) = false := decide_eq_false h
      rw [this]
      have e : memB (a :: l) s = memB l s := by simp [memB, h]
      rw [e]
      exact ih
theorem tn_br {on : List ByteArray} (h : on ≠ []) : (tn on).br 0 = segN := by
  unfold Hi.br tn; simp [h]
theorem tn_seg {on : List ByteArray} (h : on ≠ []) : (tn on).seg 7 = some 0 := by
  cases on with
  | nil => exact absurd rfl h
  | cons a l =>
    unfold Hi.seg tn
    simp only [List.map_cons, List.find?_cons]
    rfl
theorem tn_count (on : List ByteArray) : (tn on).count 0 = on.length := by
  unfold Hi.count tn
  rw [List.countP_map]
  show List.countP (fun _ => true) on = _
  simp
theorem star_may : listMay [⟨star, ⟨true, false, false⟩⟩] = true := by rfl
theorem segN_clean (T : Hi) : T.clean segN = segN := rfl
theorem tn_add (s : ByteArray) : newHi.add 0 s segN = if mayN s = true then (tn [s], 0, 0) else (newHi, 0, 3) := by
  have h1 : newHi.is 0 = true := rfl
  have h2 : (newHi.get 0 s) = none := rfl
  have h3 : newHi.cleanE segN = 0 := by
    unfold Hi.cleanE
    have a1 : segN.kind = 1 := rfl
    have a2 : ¬ (segN.uid < 1 ∨ listMay segN.acl = false ∨ bkMay segN.b = false) := by
      rintro (h | h | h)
      · revert h; decide
      · have : listMay segN.acl = true := star_may
        rw [this] at h; cases h
      · revert h; decide
    rw [if_pos a1, if_neg a2]
    rfl
  unfold Hi.add Hi.why
  rw [h1, h2, h3]
  cases hm : mayN s with
  | false => simp
  | true => exact rfl
theorem tn_name {on : List ByteArray} {f : ByteArray} (hf : f ∈ on) (s : ByteArray) : (tn on).name 0 f s = if mayN s = false then (tn on, 3) else if memB on s = true then (tn on, 5) else (tn (on ++ [s]), 0) := by
  unfold Hi.name
  rw [tn_get, if_pos (memB_iff.2 hf)]
  simp only
  cases hm : mayN s with
  | false => simp
  | true =>
    rw [tn_get]
    have hne : on ≠ [] := List.ne_nil_of_mem hf
    cases h : memB on s with
    | true => simp
    | false => simp [Hi.named, tn, hne]
theorem tn_look {on : List ByteArray} {s : ByteArray} (h : s ∈ on) : (tn on).look 0 s = some segN := by
  unfold Hi.look
  rw [tn_get, if_pos (memB_iff.2 h)]
  show some ((tn on).br 0) = _
  rw [tn_br (List.ne_nil_of_mem h)]
theorem tn_delete {on : List ByteArray} {s : ByteArray} (h : s ∈ on) : ((tn on).delete 0 s).2 = (segN, 0) ∧ ((tn on).delete 0 s).1.byUID 7 = none ∧ ((tn on).delete 0 s).1.count 0 = 0 ∧ ((tn on).delete 0 s).1.is 0 = true := by
  have hb := tn_br (List.ne_nil_of_mem h)
  have hd : (tn on).delete 0 s = ((tn on).gone 0, segN, 0) := by
    unfold Hi.delete
    rw [tn_get, if_pos (memB_iff.2 h)]
    simp only [hb]
    rw [if_neg (by simp [segN])]
  have hL : ((tn on).gone 0).L = [] := by
    unfold Hi.gone tn
    simp [List.filter_eq_nil_iff]
  rw [hd]
  refine ⟨rfl, ?_, ?_, ?_⟩
  · unfold Hi.byUID Hi.seg; rw [hL]; rfl
  · unfold Hi.count; rw [hL]; rfl
  · unfold Hi.gone; rw [hb, if_neg (by simp [segN])]; rfl
theorem may_ne {s : ByteArray} (h : mayN s = true) : s ≠ ByteArray.empty := by
  rintro rfl
  revert h; decide
end Go.Con
