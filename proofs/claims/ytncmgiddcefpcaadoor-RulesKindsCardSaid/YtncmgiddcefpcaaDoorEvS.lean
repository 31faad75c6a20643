/- Summaries of library functions, and that they hold where the functions' contracts hold. -/
import Derived.Test.YtncmgiddcefpcaaDoorEvR
import Derived.Lib.Split
import Derived.Lib.Join
import Derived.Below
namespace Go.Ev
open Go Go.RowKit
set_option linter.unusedSimpArgs false
set_option linter.unusedVariables false

abbrev Sum := List Value → Hp → Option (Value × Hp)

/-- What is asked of a summary. -/
def SumOK (P : Program) (I : Inv) (f : FuncId) (s : Sum) : Prop := ∀ args h v h', s args h = some (v, h') → ∀ m w args', Rep P m h w → I m h w → VL m args args' →
  Calls P f args'.toArray w fun e w' => ∃ v' m', e = .returned v' ∧ Rep P m' h' w' ∧ Step m h w m' h' w' ∧ VRel m' v v'

theorem Rep.below {P : Program} {m : Mp} {h : Hp} {w w' : World} (r : Rep P m h w) (b : Below w.heap.size w w') : Rep P m h w' ∧ Step m h w m h w' := by
  have hold : ∀ c : Nat, ∀ o, w.heap[c]? = some o → w'.heap[c]? = some o := fun c o e => by
    have : c < w.heap.size := (Array.getElem?_eq_some_iff.1 e).1
    rw [b.block c this]; exact e
  refine ⟨⟨fun x L e => Nat.lt_of_lt_of_le (r.rng x L e) b.size, r.frs, fun x cs e st hb hd => ?_, fun x cs e base olds hb => ?_, fun x es ck hb => ?_, r.sep⟩,
    ⟨Mp.le_refl m, Nat.le_refl _, b.size, fun c hc _ => b.block c hc, fun x L hl hm _ => ⟨x, L, hl, hm, rfl⟩, fun x L hm _ => ⟨x, L, hm, rfl⟩, b.os, b.tape, b.output⟩⟩
  · obtain ⟨L, cs', fz, h1, h2, h3⟩ := r.row x cs e st hb hd; exact ⟨L, cs', fz, h1, hold _ _ h2, h3⟩
  · obtain ⟨L, cs', n, h1, h2, h3⟩ := r.rw x cs e base olds hb; exact ⟨L, cs', n, h1, hold _ _ h2, h3⟩
  · obtain ⟨L, es', h1, h2, h3⟩ := r.map x es ck hb; exact ⟨L, es', h1, hold _ _ h2, h3⟩

theorem VL.two {m : Mp} {x y : Value} {l : List Value} (h : VL m [x, y] l) : ∃ x' y', l = [x', y'] ∧ VRel m x x' ∧ VRel m y y' := by
  cases h with
  | cons h1 t => cases t with
    | cons h2 t => cases t; exact ⟨_, _, rfl, h1, h2⟩
theorem VL.three {m : Mp} {x y z : Value} {l : List Value} (h : VL m [x, y, z] l) : ∃ x' y' z', l = [x', y', z'] ∧ VRel m x x' ∧ VRel m y y' ∧ VRel m z z' := by
  cases h with
  | cons h1 t => obtain ⟨y', z', rfl, h2, h3⟩ := VL.two t; exact ⟨_, _, _, rfl, h1, h2, h3⟩

/-! ### strings.Split -/
def sumSplit (T : TypeId) : Sum
  | [.string s, .string sep], h => bif decide (s.size < 4294967281) && decide (1 ≤ sep.size) then
      some (.slice (some ⟨h.next, 0, none⟩) (Lib.countB s sep + 1) (2 * (Lib.countB s sep + 1)), h.push (.row ((Lib.splitB sep 0 (Lib.countB s sep) s).map Value.string) T (.rw 0 [])))
    else none
  | _, _ => none

theorem strings_rel {m : Mp} : ∀ l : List ByteArray, VL m (l.map Value.string) (l.map Value.string)
  | [] => .nil
  | _ :: l => .cons (.string _) (strings_rel l)

theorem sumSplit_ok {P : Program} {I : Inv} {f : FuncId} {T : TypeId} (hI : ∀ m h w, I m h w → ∃ mx, w.cell? ⟨0, 0, none⟩ = some (.int .i64 mx))
    (H : ∀ (s sep : ByteArray) (m : Int) (w : World), s.size < 4294967281 → w.cell? ⟨0, 0, none⟩ = some (.int .i64 m) → 1 ≤ sep.size →
      Calls P f #[.string s, .string sep] w fun e w' => e = .returned (.slice (some ⟨w.heap.size, 0, none⟩) (Lib.countB s sep + 1) (Lib.countB s sep + 1)) ∧ w' = w.alloc (.cells ((Lib.splitB sep 0 (Lib.countB s sep) s).map Value.string).toArray T)) :
    SumOK P I f (sumSplit T) := by
  intro args h v h' e m w args' r hi hv
  unfold sumSplit at e
  split at e
  · rename_i s sep
    cases hd : (decide (s.size < 4294967281) && decide (1 ≤ sep.size)) with
    | false => rw [hd] at e; simp at e
    | true =>
      rw [hd] at e; simp only [cond_true, Option.some.injEq, Prod.mk.injEq] at e
      simp only [Bool.and_eq_true, decide_eq_true_eq] at hd
      obtain ⟨rfl, rfl⟩ := e
      obtain ⟨x', y', rfl, h1, h2⟩ := hv.two
      cases h1; cases h2
      obtain ⟨mx, hmx⟩ := hI m h w hi
      refine (H s sep mx w hd.1 hmx hd.2).mono fun e w' he => ?_
      obtain ⟨rfl, rfl⟩ := he
      have hob : ObRel m (.row ((Lib.splitB sep 0 (Lib.countB s sep) s).map Value.string) T (.rw 0 [])) (.cells ((Lib.splitB sep 0 (Lib.countB s sep) s).map Value.string).toArray T (0, 0)) := .inl ⟨_, _, _, rfl, rfl, by simpa using strings_rel _⟩
      have hp := Rep.push r (w := w) rfl (x := 0) hob.hob
      have hst := Step.push (w := w) r (.row ((Lib.splitB sep 0 (Lib.countB s sep) s).map Value.string) T (.rw 0 [])) (.cells ((Lib.splitB sep 0 (Lib.countB s sep) s).map Value.string).toArray T (0, 0)) 0
      exact ⟨_, _, rfl, hp, hst, slc_exact (Mp.upd_self _ _ _) (Nat.le_refl _)⟩
  · cases e

/-! ### strings.Join -/
def strsOf : List Value → Option (List ByteArray)
  | [] => some []
  | .string s :: l => (strsOf l).map (s :: ·)
  | _ :: _ => none
theorem strsOf_spec : ∀ {l : List Value} {xs : List ByteArray}, strsOf l = some xs → l = xs.map Value.string
  | [], xs, h => by simp [strsOf] at h; subst h; rfl
  | a :: l, xs, h => by
    unfold strsOf at h
    split at h
    · rename_i heq; cases heq
    · rename_i s l' heq
      simp only [List.cons.injEq] at heq
      obtain ⟨rfl, rfl⟩ := heq
      rw [Option.map_eq_some_iff] at h
      obtain ⟨ys, h', rfl⟩ := h
      rw [strsOf_spec h']; rfl
    · cases h
theorem VL.strings {m : Mp} : ∀ {xs : List ByteArray} {l : List Value}, VL m (xs.map Value.string) l → l = xs.map Value.string
  | [], l, h => by cases h; rfl
  | x :: xs, l, h => by cases h with | cons h t => cases h; rw [VL.strings t]; rfl

def sumJoin : Sum
  | [.slice a n c, .string sep], h => match n with
    | 0 => some (.string ⟨#[]⟩, h)
    | n + 1 => (evCells 1 (n + 1) (.slice a (n + 1) c) h).bind fun cs => (strsOf cs).bind fun xs =>
      bif Nat.beq xs.length (n + 1) && decide ((Lib.join (xs.map (·.data.toList)) sep.data.toList).length ≤ 140737488355328) && decide (n + 1 ≤ 140737488355328) then
        some (.string ⟨(Lib.join (xs.map (·.data.toList)) sep.data.toList).toArray⟩, h) else none
  | _, _ => none

theorem sumJoin_ok {P : Program} {I : Inv} {f : FuncId}
    (H0 : ∀ (a : Option Addr) (c : Nat) (sep : ByteArray) (w : World), Calls P f #[.slice a 0 c, .string sep] w fun e w' => e = .returned (.string ⟨#[]⟩) ∧ w' = w)
    (H : ∀ (bk o c : Nat) (xs : List ByteArray) (sep : ByteArray) (w : World), (∀ (j : Nat) x, xs[j]? = some x → w.cell? ⟨bk, o + j, none⟩ = some (.string x)) → bk < w.heap.size → xs.length ≤ 140737488355328 → xs.length ≤ c →
      (Lib.join (xs.map (·.data.toList)) sep.data.toList).length ≤ 140737488355328 →
      Calls P f #[.slice (some ⟨bk, o, none⟩) xs.length c, .string sep] w fun e w' => e = .returned (.string ⟨(Lib.join (xs.map (·.data.toList)) sep.data.toList).toArray⟩) ∧ Below w.heap.size w w') :
    SumOK P I f sumJoin := by
  intro args h v h' e m w args' r hi hv
  unfold sumJoin at e
  split at e
  · rename_i a n c sep
    obtain ⟨a', y', rfl, h1, h2⟩ := hv.two
    cases h2
    split at e
    · simp only [Option.some.injEq, Prod.mk.injEq] at e
      obtain ⟨rfl, rfl⟩ := e
      obtain ⟨a2, c2, rfl⟩ : ∃ a2 c2, a' = .slice a2 0 c2 := by cases h1 <;> exact ⟨_, _, rfl⟩
      refine (H0 a2 c2 sep w).mono fun e w' he => ?_
      obtain ⟨rfl, rfl⟩ := he
      exact ⟨_, m, rfl, r, Step.refl _ _ _, .string _⟩
    · rename_i n
      simp only [Option.bind_eq_some_iff] at e
      obtain ⟨cs, hcs, xs, hxs, e⟩ := e
      cases hd : (Nat.beq xs.length (n + 1) && decide ((Lib.join (xs.map (·.data.toList)) sep.data.toList).length ≤ 140737488355328) && decide (n + 1 ≤ 140737488355328)) with
      | false => rw [hd] at e; simp at e
      | true =>
        rw [hd] at e; simp only [cond_true, Option.some.injEq, Prod.mk.injEq] at e
        simp only [Bool.and_eq_true, decide_eq_true_eq] at hd
        obtain ⟨⟨d1, d2⟩, d3⟩ := hd
        have d1 := Nat.eq_of_beq_eq_true d1
        obtain ⟨rfl, rfl⟩ := e
        have hx := strsOf_spec hxs
        unfold evCells at hcs
        split at hcs
        · rename_i heq; cases heq; cases h1
        · rename_i b o l c' heq
          cases heq
          have hz : ((n + 1) * 1 == 0) = false := by simp
          rw [hz] at hcs
          simp only [cond_false, Option.bind_eq_some_iff] at hcs
          obtain ⟨row, hrow, hcs⟩ := hcs
          cases hdd : decide (o + (n + 1) * 1 ≤ row.length) with
          | false => rw [hdd] at hcs; simp at hcs
          | true =>
            rw [hdd] at hcs; simp only [cond_true, Option.some.injEq] at hcs
            have hdd := of_decide_eq_true hdd
            obtain ⟨L, cs', el, fz, k1, k2, k3, _⟩ := r.cell hrow
            cases h1 with
            | slc hL hl hc ha =>
              rename_i cap' L2 a2
              have : L2 = L := by rw [hL] at k1; exact Option.some.inj k1
              subst this
              have := ha.resolve_right (by omega)
              subst this
              obtain ⟨l2, hl2, hvl, hcc⟩ := take_of_VL k3 o ((n + 1) * 1) hdd
              rw [hcs, hx] at hvl
              have hl3 := hvl.strings
              subst hl3
              have HH := H L2.blk o cap' xs sep w (fun j x hj => by
                rw [cell?_of k2]
                exact hcc j _ (by simp [hj])) (r.rng _ _ hL) (by omega) (by omega) d2
              rw [d1] at HH
              refine HH.mono fun e w' he => ?_
              obtain ⟨rfl, hbel⟩ := he
              obtain ⟨r', s'⟩ := r.below hbel
              exact ⟨_, m, rfl, r', s', .string _⟩
        · rename_i heq; cases heq
        · cases hcs
  · cases e

/-! ### strings.Compare -/
def sumCmp (cf : List UInt8 → List UInt8 → Int) : Sum
  | [.string a, .string b], h => some (.int .i64 (cf a.data.toList b.data.toList), h)
  | _, _ => none
theorem sumCmp_ok {P : Program} {I : Inv} {f : FuncId} {cf : List UInt8 → List UInt8 → Int}
    (H : ∀ (a b : ByteArray) (w : World), Calls P f #[.string a, .string b] w fun e w' => e = .returned (.int .i64 (cf a.data.toList b.data.toList)) ∧ w' = w) : SumOK P I f (sumCmp cf) := by
  intro args h v h' e m w args' r hi hv
  unfold sumCmp at e
  split at e
  · rename_i a b
    simp only [Option.some.injEq, Prod.mk.injEq] at e
    obtain ⟨rfl, rfl⟩ := e
    obtain ⟨x', y', rfl, h1, h2⟩ := hv.two
    cases h1; cases h2
    refine (H a b w).mono fun e w' he => ?_
    obtain ⟨rfl, rfl⟩ := he
    exact ⟨_, m, rfl, r, Step.refl _ _ _, .int _ _⟩
  · cases e

end Go.Ev
