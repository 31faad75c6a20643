/- JudgeNow's hierarchies, in the model. -/
import Derived.Test.YtncmgiddcefpcaaGreatDoorConTw
namespace Go.Proofs.YtncmgiddcefpcaaGreatDoor
open Go Go.Ev Go.Con
set_option linter.unusedSimpArgs false
set_option linter.unusedVariables false
set_option maxRecDepth 100000
def nmA : ByteArray := ⟨#[97]⟩
def nmU : ByteArray := ⟨#[117]⟩
def jb (f : Fl) (b : Bk) : Bn := ⟨1, 1, 0, ByteArray.empty, false, [⟨nmU, f⟩], b⟩
def jT (f : Fl) (b : Bk) : Hi := ⟨[jb f b], [⟨0, 0, nmA⟩], [true]⟩
theorem jn_add : newHi.add 0 nmA (jb ⟨true, true, true⟩ ⟨0, 7, 7, 0⟩) = (jT ⟨true, true, true⟩ ⟨0, 7, 7, 0⟩, 0, 0) := by
  have h : newHi.why 0 nmA (jb ⟨true, true, true⟩ ⟨0, 7, 7, 0⟩) = 0 := by decide
  unfold Hi.add
  rw [if_pos h]; rfl
theorem jn_may (f : Fl) : listMay [⟨nmU, f⟩] = true := by rfl
theorem jn_get (f : Fl) (b : Bk) : (jT f b).get 0 nmA = some 0 := by rfl
theorem jn_access (f g : Fl) (b : Bk) : (jT f b).access 0 nmA [⟨nmU, g⟩] = (jT g b, 0) := by
  unfold Hi.access
  rw [jn_get]
  show (if ((jb f b).kind ≠ 1) then _ else _) = _
  rw [if_neg (by simp [jb]), jn_may]; rfl
theorem jn_ringed (f : Fl) (b b' : Bk) (hb : bkMay b' = true) : (jT f b).ringed 0 nmA b' = (jT f b', 0) := by
  unfold Hi.ringed
  rw [jn_get]
  show (if ((jb f b).kind ≠ 1) then _ else _) = _
  rw [if_neg (by simp [jb]), hb]; rfl
theorem jn_delete (f : Fl) (b : Bk) : (jT f b).delete 0 nmA = (⟨[jb f b], [], [true]⟩, jb f b, 0) := by
  unfold Hi.delete
  rw [jn_get]
  have hn : ¬ (((jT f b).br 0).kind = 2 ∧ 0 < (jT f b).count ((jT f b).br 0).dir) := fun h => by have := h.1; simp [jT, jb, Hi.br] at this
  simp only [if_neg hn]
  have hk : ((jT f b).br 0).kind ≠ 2 := by simp [jT, jb, Hi.br]
  unfold Hi.gone
  rw [if_neg hk]
  rfl
theorem jn_gone (B : List Bn) (D : List Bool) (us : List ByteArray) (m : Mk) : fineI ⟨B, [], D⟩ us [m] = 0 := by
  have : jFine ⟨B, [], D⟩ us m = false := rfl
  unfold fineI
  simp [List.findIdx?_cons, this]
theorem fine_one (T : Hi) (us : List ByteArray) (m : Mk) : (fineI T us [m] == -1) = jFine T us m := by
  unfold fineI
  cases h : jFine T us m <;> simp [List.findIdx?_cons, h]
end Go.Proofs.YtncmgiddcefpcaaGreatDoor
