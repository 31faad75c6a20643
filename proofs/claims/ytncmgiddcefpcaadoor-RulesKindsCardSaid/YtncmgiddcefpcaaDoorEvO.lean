/- Regions that draw their order: whatever order is drawn, the outcome is the abstract one. -/
import Derived.Test.YtncmgiddcefpcaaDoorEvN
namespace Go.Ev
open Go
set_option linter.unusedSimpArgs false
set_option linter.unusedVariables false

/-! ### small laws -/
mutual
theorem VRel.swap {m1 m2 m3 : Mp} {v v1 v2 : Value} (h1 : VRel m1 v v1) (h2 : VRel m2 v v2) (h : ∀ b, m1 b ≠ none → m3 b = m2 b) : VRel m3 v v2 := by
  cases h1 with
  | ptr hb => cases h2 with
    | ptr hb2 => exact .ptr (by rw [h _ (by rw [hb]; simp)]; exact hb2)
  | slc hb _ _ _ => cases h2 with
    | slc hb2 hl hc ha => exact .slc (by rw [h _ (by rw [hb]; simp)]; exact hb2) hl hc ha
  | mp hb => cases h2 with
    | mp hb2 => exact .mp (by rw [h _ (by rw [hb]; simp)]; exact hb2)
  | func hf hc => cases h2 with
    | func hf2 hc2 => exact .func (hf.swap hf2 h) (hc.swap hc2 h)
  | iface hv => cases h2 with
    | iface hv2 => exact .iface (hv.swap hv2 h)
  | agg hv => cases h2 with
    | agg hv2 => exact .agg (hv.swap hv2 h)
  | tuple hv => cases h2 with
    | tuple hv2 => exact .tuple (hv.swap hv2 h)
  | bool b => cases h2; exact .bool b
  | int k n => cases h2; exact .int k n
  | float k n => cases h2; exact .float k n
  | complex k x y => cases h2; exact .complex k x y
  | string s => cases h2; exact .string s
  | nilp => cases h2; exact .nilp
  | nils => cases h2; exact .nils
  | nilm => cases h2; exact .nilm
  | nilc => cases h2; exact .nilc
  | hole => exact .hole
  | nilFunc => cases h2; exact .nilFunc
  | nilIface => cases h2; exact .nilIface
theorem VL.swap {m1 m2 m3 : Mp} {l l1 l2 : List Value} (h1 : VL m1 l l1) (h2 : VL m2 l l2) (h : ∀ b, m1 b ≠ none → m3 b = m2 b) : VL m3 l l2 := by
  cases h1 with
  | nil => cases h2; exact .nil
  | cons hv ht => cases h2 with
    | cons hv2 ht2 => exact .cons (hv.swap hv2 h) (ht.swap ht2 h)
end

theorem Rep.junk {P : Program} {m : Mp} {h : Hp} {w : World} (r : Rep P m h w) (ob : Obj) : Rep P m h { w with heap := w.heap.push ob } := by
  have hold : ∀ c : Nat, ∀ o, w.heap[c]? = some o → (w.heap.push ob)[c]? = some o := fun c o e => by
    have : c < w.heap.size := (Array.getElem?_eq_some_iff.1 e).1
    rw [Array.getElem?_push, if_neg (by omega)]; exact e
  refine ⟨fun b L e => by have := r.rng b L e; simp; omega, r.frs, fun b cs e st hb hd => ?_, fun b cs e base olds hb => ?_, fun b es ck hb => ?_, r.sep⟩
  · obtain ⟨L, cs', fz, h1, h2, h3⟩ := r.row b cs e st hb hd; exact ⟨L, cs', fz, h1, hold _ _ h2, h3⟩
  · obtain ⟨L, cs', n, h1, h2, h3⟩ := r.rw b cs e base olds hb; exact ⟨L, cs', n, h1, hold _ _ h2, h3⟩
  · obtain ⟨L, es', h1, h2, h3⟩ := r.map b es ck hb; exact ⟨L, es', h1, hold _ _ h2, h3⟩
theorem Step.junk {m0 m : Mp} {h0 h : Hp} {w0 w : World} (s : Step m0 h0 w0 m h w) (ob : Obj) : Step m0 h0 w0 m h { w with heap := w.heap.push ob } := by
  refine ⟨s.le, s.next, by have := s.size; simp; omega, fun c hc hn => ?_, s.liv, s.old, s.os, s.tape, s.output⟩
  have := s.size
  rw [Array.getElem?_push, if_neg (by omega)]; exact s.same c hc hn

/-- A block that the true side has made already. -/
theorem Rep.commit {P : Program} {m : Mp} {h : Hp} {w : World} (r : Rep P m h w) {ob : Ob} {ob' : Obj} {c : Nat} (hc : w.heap[c]? = some ob') (hun : ∀ b L, m b = some L → L.blk ≠ c) (hob : ObRel m ob ob') :
    Rep P (m.upd h.next ⟨c, 0⟩) (h.push ob) w := by
  have hn := (r.frs h.next (Nat.le_refl _)).2
  have hle : m.le (m.upd h.next ⟨c, 0⟩) := Mp.le_upd hn
  have hlv : ∀ b, live (h.push ob) b → b ≠ h.next → live h b := fun b hl hb => by
    unfold live at *; rw [Hp.get_push, if_neg hb] at hl; exact hl
  have hclt : c < w.heap.size := (Array.getElem?_eq_some_iff.1 hc).1
  refine ⟨fun b L e => ?_, fun b hb => ?_, fun b cs e st hb hd => ?_, fun b cs e base olds hb => ?_, fun b es ck hb => ?_, fun b b' L L' hl hne hm hm' he => ?_⟩
  · unfold Mp.upd at e
    split at e
    · cases e; exact hclt
    · exact r.rng b L e
  · rw [Hp.next_push] at hb
    refine ⟨?_, ?_⟩
    · rw [Hp.get_push, if_neg (by omega)]; exact (r.frs b (by omega)).1
    · unfold Mp.upd; rw [if_neg (by omega)]; exact (r.frs b (by omega)).2
  · rw [Hp.get_push] at hb
    split at hb
    · rename_i hbn
      subst hbn
      rcases hob.hob (P := P) with ⟨cs1, cs', e1, n, base, olds, rfl, rfl, h1, h2, h3⟩ | ⟨rfl, rfl⟩
      · cases hb
        exact ⟨_, cs', (0, 0), Mp.upd_self _ _ _, hc, h1.mono hle⟩
      · cases hb
    · obtain ⟨L, cs', fz, h1, h2, h3⟩ := r.row b cs e st hb hd
      exact ⟨L, cs', fz, hle _ _ h1, h2, h3.mono hle⟩
  · rw [Hp.get_push] at hb
    split at hb
    · rename_i hbn
      subst hbn
      rcases hob.hob (P := P) with ⟨cs1, cs', e1, n, base, olds, rfl, rfl, h1, h2, h3⟩ | ⟨rfl, rfl⟩
      · cases hb
        exact ⟨_, cs', n, Mp.upd_self _ _ _, hc, h2, h3⟩
      · cases hb
    · obtain ⟨L, cs', n, h1, h2, h3⟩ := r.rw b cs e base olds hb
      exact ⟨L, cs', n, hle _ _ h1, h2, h3⟩
  · rw [Hp.get_push] at hb
    split at hb
    · rename_i hbn
      subst hbn
      rcases hob.hob (P := P) with ⟨cs1, cs', e1, n, base, olds, rfl, rfl, h1, h2, h3⟩ | ⟨rfl, rfl⟩
      · cases hb
      · cases hb
        exact ⟨_, #[], Mp.upd_self _ _ _, hc, .nil⟩
    · obtain ⟨L, es', h1, h2, h3⟩ := r.map b es ck hb
      exact ⟨L, es', hle _ _ h1, h2, h3.mono hle⟩
  · unfold Mp.upd at hm hm'
    split at hm
    · rename_i hbn
      cases hm
      rw [if_neg (by omega)] at hm'
      exact absurd he.symm (hun b' L' hm')
    · rename_i hbn
      split at hm'
      · cases hm'
        exact absurd he (hun b L hm)
      · rename_i hbn'
        rcases r.sep b b' L L' (hlv b hl hbn) hne hm hm' he with h1 | ⟨cs, e, base, olds, cs2, e2, h1, h2, h3, h4⟩
        · left; unfold inert at *; rw [Hp.get_push, if_neg hbn']; exact h1
        · right
          exact ⟨cs, e, base, olds, cs2, e2, by rw [Hp.get_push, if_neg hbn]; exact h1, h2, by rw [Hp.get_push, if_neg hbn']; exact h3, h4⟩

theorem Step.commit {P : Program} {m0 m : Mp} {h0 h : Hp} {w0 w : World} (r : Rep P m h w) (s : Step m0 h0 w0 m h w) (ob : Ob) {c : Nat} (hc : w0.heap.size ≤ c) : Step m0 h0 w0 (m.upd h.next ⟨c, 0⟩) (h.push ob) w := by
  have hn := (r.frs h.next (Nat.le_refl _)).2
  refine ⟨Mp.le_trans s.le (Mp.le_upd hn), by rw [Hp.next_push]; have := s.next; omega, s.size, s.same, fun b L hl hm hlt => ?_, fun b L hm hlt => ?_, s.os, s.tape, s.output⟩
  · unfold Mp.upd at hm
    split at hm
    · cases hm; simp at hlt; omega
    · rename_i hb
      unfold live at hl; rw [Hp.get_push, if_neg hb] at hl
      exact s.liv b L hl hm hlt
  · unfold Mp.upd at hm
    split at hm
    · cases hm; simp at hlt; omega
    · exact s.old b L hm hlt

theorem ObRel.mono {m m' : Mp} (hm : m.le m') {ob : Ob} {ob' : Obj} (h : ObRel m ob ob') : ObRel m' ob ob' := by
  rcases h with ⟨cs, cs', e, rfl, rfl, hv⟩ | h
  · exact .inl ⟨cs, cs', e, rfl, rfl, hv.mono hm⟩
  · exact .inr h

/-- From a weakest precondition to some outcome. -/
theorem wp_some {P : Program} {o : Oper} {a : Act} {w : World} {next : Act → World → Prop} (h : o.wp P a w next (fun _ _ _ => False)) : ∃ a' w', next a' w' := by
  unfold Oper.wp Oper.upon at h
  split at h
  · exact ⟨_, _, h⟩
  · exact ⟨_, _, h⟩
  · exact ⟨_, _, h⟩
  · obtain ⟨e, w', fr, hR, _⟩ := h []
    cases e with
    | returned v => exact ⟨_, _, hR⟩
    | panicked ch => exact hR.elim
    | outgrown => obtain ⟨a0, w0, hq⟩ := hR; exact hq.elim
  · obtain ⟨v, w', hR, _⟩ := h default []
    exact ⟨_, _, hR⟩
  · exact h.elim
  · exact h.elim

/-- A frame cut down to some slots. -/
theorem cut_frame (fr : Fr) : ∀ l : List Tmp, ∃ g : Fr, ∀ t, g.get t = if t ∈ l then fr.get t else none
  | [] => ⟨.e, fun t => by simp [Tr.get_e]⟩
  | x :: l => by
    obtain ⟨g, hg⟩ := cut_frame fr l
    cases hx : fr.get x with
    | none => exact ⟨g, fun t => by rw [hg]; by_cases h1 : t = x <;> by_cases h2 : t ∈ l <;> simp [h1, h2, hx] <;> (try (subst h1; simp [hx]))⟩
    | some v => exact ⟨g.set x v, fun t => by rw [Tr.get_set, hg]; by_cases h1 : t = x <;> by_cases h2 : t ∈ l <;> simp [h1, h2, hx]⟩

theorem tmpsIn_mem {t : Tmp} : ∀ {l : List Operand}, Operand.tmp t ∈ l → t ∈ tmpsIn l
  | x :: l, h => by
    simp only [List.mem_cons] at h
    rcases h with rfl | h
    · simp [tmpsIn]
    · have := tmpsIn_mem h
      cases x <;> simp [tmpsIn, this]

theorem ev1_cut {fr g : Fr} {l : List Tmp} (hg : ∀ t, g.get t = if t ∈ l then fr.get t else none) {x : Operand} (hx : ∀ t, x = .tmp t → t ∈ l) : ev1 g x = ev1 fr x := by
  cases x with
  | tmp t => simp only [ev1, hg, if_pos (hx t rfl)]
  | _ => rfl

/-! ### counting -/
def cnt (D : Nat → Bool) : Nat → Nat
  | 0 => 0
  | n + 1 => cnt D n + (bif D n then 0 else 1)
theorem cnt_zero {D : Nat → Bool} : ∀ {n : Nat}, cnt D n = 0 → ∀ i, i < n → D i = true
  | n + 1, h, i, hi => by
    simp only [cnt] at h
    by_cases hin : i = n
    · subst hin
      cases hD : D i with
      | true => rfl
      | false => rw [hD] at h; simp at h
    · exact cnt_zero (n := n) (by omega) i (by omega)
theorem cnt_same {D D' : Nat → Bool} : ∀ {n : Nat}, (∀ k, k < n → D' k = D k) → cnt D' n = cnt D n
  | 0, _ => rfl
  | n + 1, h => by simp only [cnt]; rw [cnt_same (n := n) fun k hk => h k (by omega), h n (by omega)]
theorem cnt_set {D D' : Nat → Bool} {i : Nat} (h1 : D i = false) (h2 : D' i = true) (h3 : ∀ k, k ≠ i → D' k = D k) : ∀ {n : Nat}, i < n → cnt D' n + 1 = cnt D n
  | n + 1, hi => by
    simp only [cnt]
    by_cases hin : i = n
    · subst hin
      rw [cnt_same (n := i) (D := D) (D' := D') fun k hk => h3 k (by omega), h1, h2]
      simp
    · have := cnt_set h1 h2 h3 (n := n) (by omega)
      rw [h3 n (by omega)]
      omega
theorem cnt_all : ∀ n, cnt (fun _ => false) n = n
  | 0 => rfl
  | n + 1 => by simp [cnt, cnt_all n]

end Go.Ev
