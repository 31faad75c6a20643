/- What an argument reads as: an access list, a text. -/
import Derived.Test.YtncmgiddcefpcaaDoorConZr
namespace Go.Proofs.YtncmgiddcefpcaaDoor
open Go Go.Ev Go.RowKit Go.Con
set_option linter.unusedSimpArgs false
set_option linter.unusedVariables false
set_option maxRecDepth 1000000
theorem rdStr {W : World} {v : Value} (r : RdT Tryd.prog W 9 v.cells.toList) {base : Nat} (o : Value.okWide Tryd.prog W .any base 9 v) : ∃ s, v = .string s := by
  obtain ⟨s, hs, _⟩ := r.string Tryd.underlying9
  have o : Cell.okWide Tryd.prog W .any base 9 v := by unfold Value.okWide at o; rw [Tryd.underlying9] at o; exact o
  have o : Cell.ok Tryd.prog W .any base 9 v := by unfold Cell.okWide at o; rw [Tryd.underlying9] at o; cases v <;> exact o
  unfold Cell.ok at o
  rw [Tryd.underlying9] at o
  cases v with
  | string s => exact ⟨s, rfl⟩
  | _ => exact o.elim
theorem rdTm {W : World} {cs : List Value} (r : RdT Tryd.prog W 64 cs) : ∃ x : Tm, cs = tmC x := by
  have hl := r.len Tryd.underlying64 (n := 4) (by kernel_rfl)
  match cs, hl, r with
  | [a, b, c, d], _, r =>
    obtain ⟨s, hs, _⟩ := (r.field Tryd.underlying64 0 9 0 1 rfl (by kernel_rfl)).string Tryd.underlying9
    have rf : RdT Tryd.prog W 62 [b, c, d] := r.field Tryd.underlying64 1 62 1 3 rfl (by kernel_rfl)
    have c1 : Tryd.prog.cellsOf 4 = 1 := by kernel_rfl
    obtain ⟨x, hx⟩ := (rf.field Tryd.underlying62 0 4 0 1 rfl c1).bool Tryd.underlying4
    obtain ⟨y, hy⟩ := (rf.field Tryd.underlying62 1 4 1 1 rfl c1).bool Tryd.underlying4
    obtain ⟨z, hz⟩ := (rf.field Tryd.underlying62 2 4 2 1 rfl c1).bool Tryd.underlying4
    cases hs; cases hx; cases hy; cases hz
    exact ⟨⟨s, ⟨x, y, z⟩⟩, rfl⟩
theorem tms_of {cs' : List Value} {xs : List Tm} (hl : cs'.length = xs.length * 4) (h : ∀ (i : Nat) (x : Tm), xs[i]? = some x → (cs'.drop (i * 4)).take 4 = tmC x) : cs' = tms xs := by
  induction xs generalizing cs' with
  | nil => have : cs'.length = 0 := by simpa using hl
           exact List.length_eq_zero_iff.1 this
  | cons a xs ih =>
    have h0 := h 0 a rfl
    rw [Nat.zero_mul, List.drop_zero] at h0
    have e : cs' = tmC a ++ cs'.drop 4 := by rw [← h0, List.take_append_drop]
    have e2 : cs'.drop 4 = tms xs := by
      refine ih (by rw [List.length_drop, hl, List.length_cons]; omega) fun i x hi => ?_
      have := h (i + 1) x (by simpa using hi)
      rw [List.drop_drop, ← this]; congr 2; omega
    rw [e, e2]; rfl
/-- A slice of terms, taken over. -/
theorem tms_in {W : World} (hsh : W.ShapedOpen Tryd.prog) {cs : List Value} (r : RdT Tryd.prog W 37 cs) : ∃ (v v' : Value) (l : List Tm), cs = [v] ∧ (v = .slice none 0 0 ∨ ∃ a len cap, v = .slice (some a) len cap) ∧ absC W.heap.size v = some v' ∧ TmSl (hIn W) v' l := by
  obtain ⟨v, v', xs, cs', hv, hv2, hva, hsl, hlen, hR⟩ := sl_in (α := Tm) (n := 4) (fun x l => l = tmC x) (P := Tryd.prog) (W := W) (e := 64) (by kernel_rfl) (by omega)
    (fun l h => by obtain ⟨x, rfl⟩ := rdTm h; exact ⟨x, tmC x, rfl, rfl⟩) (by obtain ⟨m, h⟩ := maxLen hsh; exact ⟨_, h⟩) Tryd.underlying37 r
  have hcs := tms_of hlen hR
  subst hcs
  exact ⟨v, v', xs, hv, hv2, hva, hsl⟩
/-- A slice of texts, taken over. -/
theorem strs_in {W : World} (hsh : W.ShapedOpen Tryd.prog) {cs : List Value} (r : RdT Tryd.prog W 23 cs) : ∃ (v v' : Value) (l : List ByteArray), cs = [v] ∧ (v = .slice none 0 0 ∨ ∃ a len cap, v = .slice (some a) len cap) ∧ absC W.heap.size v = some v' ∧ StrSl (hIn W) v' l := by
  obtain ⟨v, v', xs, cs', hv, hv2, hva, hsl, hlen, hR⟩ := sl_in (α := ByteArray) (n := 1) (fun x l => l = [.string x]) (P := Tryd.prog) (W := W) (e := 9) (by kernel_rfl) (Nat.le_refl _)
    (fun l h => by obtain ⟨s, rfl, _⟩ := h.string Tryd.underlying9; exact ⟨s, [.string s], rfl, rfl⟩) (by obtain ⟨m, h⟩ := maxLen hsh; exact ⟨_, h⟩) Tryd.underlying23 r
  have hcs : cs' = strs xs := by
    apply List.ext_getElem?
    intro i
    by_cases hi : i < xs.length
    · have h1 := hR i xs[i] (List.getElem?_eq_getElem hi)
      rw [Nat.mul_one] at h1
      have h2 : (cs'.drop i)[0]? = some (.string xs[i]) := by
        have : ((cs'.drop i).take 1)[0]? = some (.string xs[i]) := by rw [h1]; rfl
        rw [List.getElem?_take, if_pos (by omega)] at this; exact this
      rw [List.getElem?_drop, Nat.add_zero] at h2
      rw [h2]; simp [strs, List.getElem?_eq_getElem hi]
    · rw [List.getElem?_eq_none (by omega), List.getElem?_eq_none (by simp [strs]; omega)]
  subst hcs
  exact ⟨v, v', xs, hv, hv2, hva, hsl⟩
end Go.Proofs.YtncmgiddcefpcaaDoor
