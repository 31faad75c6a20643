/- Ev: the summary of a function that collects the names of a directory out of a map and sorts them. -/
import Derived.Test.YtncmgiddcefpcaaDoorEvS
import Derived.Test.YtncmgiddcefpcaaDoorEvO
namespace Go.Ev
open Go Go.RowKit
set_option linter.unusedSimpArgs false
set_option linter.unusedVariables false

/-- A block that the true side has made already, with room behind it. -/
theorem Rep.commitX {P : Program} {m : Mp} {h : Hp} {w : World} (r : Rep P m h w) {c x n : Nat} {cs : List Value} {cs' : Array Value} {e : TypeId} (hc : w.heap[c]? = some (.cells cs' e (0, 0))) (hun : ∀ b L, m b = some L → L.blk ≠ c)
    (h1 : VL m cs (cs'.toList.take cs.length)) (h2 : tSize P e = some n) (h3 : cs'.size = cs.length + x * n) :
    Rep P (m.upd h.next ⟨c, x⟩) (h.push (.row cs e (.rw 0 []))) w := by
  have hn := (r.frs h.next (Nat.le_refl _)).2
  have hle : m.le (m.upd h.next ⟨c, x⟩) := Mp.le_upd hn
  have hlv : ∀ b, live (h.push (.row cs e (.rw 0 []))) b → b ≠ h.next → live h b := fun b hl hb => by
    unfold live at *; rw [Hp.get_push, if_neg hb] at hl; exact hl
  have hclt : c < w.heap.size := (Array.getElem?_eq_some_iff.1 hc).1
  refine ⟨fun b L e => ?_, fun b hb => ?_, fun b cs e st hb hd => ?_, fun b cs e base olds hb => ?_, fun b es ck hb => ?_, fun b b' L L' hl hne hm hm' he => ?_⟩
  · unfold Mp.upd at e
    split at e
    · cases e; exact hclt
    · exact r.rng b L e
  · rw [Hp.next_push] at hb
    refine ⟨?_, ?_⟩
    · rw [Hp.get_push, if_neg (by omega)]; exact (r.frs b (by omega)).1
    · unfold Mp.upd; rw [if_neg (by omega)]; exact (r.frs b (by omega)).2
  · rw [Hp.get_push] at hb
    split at hb
    · rename_i hbn
      subst hbn
      cases hb
      exact ⟨_, cs', (0, 0), Mp.upd_self _ _ _, hc, h1.mono hle⟩
    · obtain ⟨L, cs', fz, h1, h2, h3⟩ := r.row b cs e st hb hd
      exact ⟨L, cs', fz, hle _ _ h1, h2, h3.mono hle⟩
  · rw [Hp.get_push] at hb
    split at hb
    · rename_i hbn
      subst hbn
      cases hb
      exact ⟨_, cs', n, Mp.upd_self _ _ _, hc, .inl h2, h3⟩
    · obtain ⟨L, cs', n, h1, h2, h3⟩ := r.rw b cs e base olds hb
      exact ⟨L, cs', n, hle _ _ h1, h2, h3⟩
  · rw [Hp.get_push] at hb
    split at hb
    · cases hb
    · obtain ⟨L, es', h1, h2, h3⟩ := r.map b es ck hb
      exact ⟨L, es', hle _ _ h1, h2, h3.mono hle⟩
  · unfold Mp.upd at hm hm'
    split at hm
    · rename_i hbn
      cases hm
      rw [if_neg (by omega)] at hm'
      exact absurd he.symm (hun b' L' hm')
    · rename_i hbn
      split at hm'
      · cases hm'
        exact absurd he (hun b L hm)
      · rename_i hbn'
        rcases r.sep b b' L L' (hlv b hl hbn) hne hm hm' he with h1 | ⟨cs, e, base, olds, cs2, e2, h1, h2, h3, h4⟩
        · left; unfold inert at *; rw [Hp.get_push, if_neg hbn']; exact h1
        · right
          exact ⟨cs, e, base, olds, cs2, e2, by rw [Hp.get_push, if_neg hbn]; exact h1, h2, by rw [Hp.get_push, if_neg hbn']; exact h3, h4⟩
theorem Step.commitX {P : Program} {m0 m : Mp} {h0 h : Hp} {w0 w : World} (r : Rep P m h w) (s : Step m0 h0 w0 m h w) (ob : Ob) {c x : Nat} (hc : w0.heap.size ≤ c) : Step m0 h0 w0 (m.upd h.next ⟨c, x⟩) (h.push ob) w := by
  have hn := (r.frs h.next (Nat.le_refl _)).2
  refine ⟨Mp.le_trans s.le (Mp.le_upd hn), by rw [Hp.next_push]; have := s.next; omega, s.size, s.same, fun b L hl hm hlt => ?_, fun b L hm hlt => ?_, s.os, s.tape, s.output⟩
  · unfold Mp.upd at hm
    split at hm
    · cases hm; simp at hlt; omega
    · rename_i hb
      unfold live at hl; rw [Hp.get_push, if_neg hb] at hl
      exact s.liv b L hl hm hlt
  · unfold Mp.upd at hm
    split at hm
    · cases hm; simp at hlt; omega
    · exact s.old b L hm hlt

/-! ### names, sorted -/
def insB (x : List UInt8) : List (List UInt8) → List (List UInt8)
  | [] => [x]
  | y :: l => bif Op.bytesLess y x then y :: insB x l else x :: y :: l
def sortB : List (List UInt8) → List (List UInt8)
  | [] => []
  | x :: l => insB x (sortB l)
theorem insB_perm (x : List UInt8) : ∀ l, (insB x l).Perm (x :: l)
  | [] => .refl _
  | y :: l => by
    unfold insB
    cases Op.bytesLess y x
    · exact .refl _
    · exact ((insB_perm x l).cons y).trans (.swap x y l)
theorem sortB_perm : ∀ l, (sortB l).Perm l
  | [] => .refl _
  | x :: l => (insB_perm x _).trans ((sortB_perm l).cons x)
theorem bytesLess_lt : ∀ (x y : List UInt8), Op.bytesLess x y = decide (x < y)
  | [], [] => by simp [Op.bytesLess]
  | [], b :: y => by simp [Op.bytesLess]
  | a :: x, [] => by simp [Op.bytesLess]
  | a :: x, b :: y => by
    have ih := bytesLess_lt x y
    unfold Op.bytesLess
    rw [ih, Bool.eq_iff_iff]
    simp [List.cons_lt_cons_iff]
theorem insB_sorted (x : List UInt8) : ∀ l, l.Pairwise (fun a b => ¬ b < a) → (insB x l).Pairwise fun a b => ¬ b < a
  | [], _ => by simp [insB]
  | y :: l, h => by
    unfold insB
    rw [bytesLess_lt]
    rw [List.pairwise_cons] at h
    by_cases hl : y < x
    · simp only [hl, decide_true, cond_true]
      rw [List.pairwise_cons]
      refine ⟨fun z hz => ?_, insB_sorted x l h.2⟩
      rcases List.mem_cons.1 ((insB_perm x l).mem_iff.1 hz) with rfl | hz
      · exact List.not_lt.2 (List.le_of_lt hl)
      · exact h.1 z hz
    · simp only [hl, decide_false, cond_false]
      rw [List.pairwise_cons]
      refine ⟨fun z hz => ?_, List.pairwise_cons.2 h⟩
      rcases List.mem_cons.1 hz with rfl | hz
      · exact hl
      · exact List.not_lt.2 (List.le_trans (List.not_lt.1 hl) (List.not_lt.1 (h.1 z hz)))
theorem sortB_sorted : ∀ l, (sortB l).Pairwise fun a b => ¬ b < a
  | [] => .nil
  | x :: l => insB_sorted x _ (sortB_sorted l)
/-- What is sorted and holds the same is the same. -/
theorem sortB_uniq {l k : List (List UInt8)} (hp : k.Perm l) (hs : k.Pairwise fun a b => ¬ b < a) : k = sortB l :=
  List.Perm.eq_of_pairwise (le := fun a b => ¬ b < a) (fun a b _ _ h1 h2 => List.le_antisymm (List.not_lt.1 h1) (List.not_lt.1 h2)) hs (sortB_sorted l) (hp.trans (sortB_perm l).symm)

/-- A directory's name in a key. -/
def keyName (d : Int) (k : Value) : Option (Option (List UInt8)) := match k with
  | .agg cs => match cs.toList with
    | [.int .i64 x, .string s] => some (bif decide (x = d) then some s.data.toList else none)
    | _ => none
  | _ => none
/-- The names of a directory, in the order of the entries. -/
def namesE (d : Int) : List MapEntry → Option (List (List UInt8))
  | [] => some []
  | e :: es => match keyName d e.key with
    | some (some s) => (namesE d es).map (s :: ·)
    | some none => namesE d es
    | none => none
def nodupB : List Nat → Bool
  | [] => true
  | x :: l => !(l.any fun y => Nat.beq x y) && nodupB l
theorem nodupB_spec : ∀ {l : List Nat}, nodupB l = true → l.Nodup
  | [], _ => .nil
  | x :: l, h => by
    simp only [nodupB, Bool.and_eq_true, Bool.not_eq_true', List.any_eq_false] at h
    rw [List.nodup_cons]
    exact ⟨fun hm => h.1 x hm (by simp), nodupB_spec h.2⟩
def bornB (es : List MapEntry) (ck : Nat) : Bool := nodupB (es.map (·.born)) && es.all fun e => decide (e.born < ck)
def encB (s : List UInt8) : Value := .string ⟨s.toArray⟩

def sumNames (T : TypeId) : Sum
  | [.pointer none, .int .i64 _], h => some (.slice none 0 0, h)
  | [.pointer (some ⟨b, 0, none⟩), .int .i64 d], h => (rowOf h b).bind fun
    | .map (some r) :: _ => match h.get r with
      | some (.map es ck) => bif bornB es ck && decide (es.length ≤ 1073741824) then (namesE d es).map fun ns => match sortB ns with
          | [] => (.slice none 0 0, h)
          | s :: ss => (.slice (some ⟨h.next, 0, none⟩) (ss.length + 1) (2 * (ss.length + 1) + 1), h.push (.row ((s :: ss).map encB) T (.rw 0 [])))
        else none
      | _ => none
    | _ => none
  | _, _ => none

theorem namesE_rel {m : Mp} {d : Int} : ∀ {es es' : List MapEntry}, EL m es es' → namesE d es' = namesE d es := by
  intro es es' h
  induction h with
  | nil => rfl
  | cons hk hf hv hb t ih => unfold namesE; rw [hk, ih]
theorem EL.born {m : Mp} {es es' : List MapEntry} (h : EL m es es') : es'.map (·.born) = es.map (·.born) := by
  induction h with
  | nil => rfl
  | cons hk hf hv hb t ih => simp [hb, ih]
theorem encB_rel {m : Mp} : ∀ l : List (List UInt8), VL m (l.map encB) (l.map encB)
  | [] => .nil
  | _ :: l => .cons (.string _) (encB_rel l)

/-- WHAT IS ASKED OF THE TRUE FUNCTION. -/
def NamesOK (P : Program) (f : FuncId) (T : TypeId) : Prop := ∀ (tb bm : Nat) (es : Array MapEntry) (ck : Nat) (d : Int) (ns : List (List UInt8)) (w : World), w.cell? ⟨tb, 0, none⟩ = some (.map (some bm)) → w.heap[bm]? = some (.map es ck) →
  (es.toList.map (·.born)).Nodup → (∀ e ∈ es.toList, e.born < ck) → es.size ≤ 1073741824 → namesE d es.toList = some ns →
  Calls P f #[.pointer (some ⟨tb, 0, none⟩), .int .i64 d] w fun e w' => Below w.heap.size w w' ∧
    ((ns = [] ∧ e = .returned (.slice none 0 0)) ∨ ∃ g cap cs, e = .returned (.slice (some ⟨g, 0, none⟩) ns.length cap) ∧ ns ≠ [] ∧ ns.length ≤ cap ∧ w.heap.size ≤ g ∧ w'.heap[g]? = some (.cells cs T (0, 0)) ∧ cs.size = cap ∧ cs.toList.take ns.length = (sortB ns).map encB)

theorem sumNames_ok {P : Program} {I : Inv} {f : FuncId} {T : TypeId} (hT : tSize P T = some 1) (H0 : ∀ (d : Int) (w : World), Calls P f #[.pointer none, .int .i64 d] w fun e w' => e = .returned (.slice none 0 0) ∧ Below w.heap.size w w') (H : NamesOK P f T) : SumOK P I f (sumNames T) := by
  intro args h v h' e m w args' r hi hv
  unfold sumNames at e
  split at e
  · rename_i d
    simp only [Option.some.injEq, Prod.mk.injEq] at e
    obtain ⟨rfl, rfl⟩ := e
    obtain ⟨x', y', rfl, h1, h2⟩ := hv.two
    cases h1; cases h2
    refine (H0 d w).mono fun e w' he => ?_
    obtain ⟨rfl, hb⟩ := he
    obtain ⟨r', s'⟩ := r.below hb
    exact ⟨_, m, rfl, r', s', .nils⟩
  · rename_i b d
    obtain ⟨x', y', rfl, h1, h2⟩ := hv.two
    cases h2
    cases h1 with
    | ptr hL =>
      rename_i L
      obtain ⟨row, hrow, e⟩ := Option.bind_eq_some_iff.1 e
      obtain ⟨L2, cs', el, fz, k1, k2, k3, _⟩ := r.cell hrow
      obtain rfl : L2 = L := by rw [hL] at k1; exact (Option.some.inj k1).symm
      split at e
      · rename_i r0 rest _
        cases hg : h.get r0 with
        | none => rw [hg] at e; cases e
        | some ob =>
          rw [hg] at e
          cases ob with
          | row cs el st => cases e
          | map es ck =>
            simp only at e
            cases hd : (bornB es ck && decide (es.length ≤ 1073741824)) with
            | false => rw [hd] at e; cases e
            | true =>
              rw [hd] at e
              simp only [cond_true] at e
              simp only [Bool.and_eq_true, decide_eq_true_eq, bornB, List.all_eq_true] at hd
              obtain ⟨⟨d1, d2⟩, d3⟩ := hd
              obtain ⟨ns, hns, e⟩ := Option.map_eq_some_iff.1 e
              obtain ⟨L3, es', m1, m2, m3⟩ := r.map r0 es ck hg
              have hc0 : w.cell? ⟨L2.blk, 0, none⟩ = some (.map (some L3.blk)) := by
                rw [cell?_of k2]
                obtain ⟨v', hv', hr⟩ := k3.getElem? 0 (a := .map (some r0)) rfl
                rw [List.getElem?_take] at hv'
                split at hv'
                · cases hr with
                  | mp hm =>
                    rw [m1] at hm
                    cases hm
                    simpa using hv'
                · cases hv'
              have hlen : es'.size = es.length := by rw [← Array.length_toList, m3.length]
              refine (H L2.blk L3.blk es' ck d ns w hc0 m2 (by rw [m3.born]; exact nodupB_spec d1) ?_ (by omega) (by rw [namesE_rel m3]; exact hns)).mono fun ev w' he => ?_
              · intro x hx
                have hb := m3.born
                have : x.born ∈ es.map (·.born) := by rw [← hb]; exact List.mem_map_of_mem hx
                obtain ⟨y, hy, hyb⟩ := List.mem_map.1 this
                rw [← hyb]; exact d2 y hy
              · obtain ⟨hbel, he⟩ := he
                obtain ⟨r', s'⟩ := r.below hbel
                have hsl : (sortB ns).length = ns.length := (sortB_perm ns).length_eq
                rcases he with ⟨rfl, rfl⟩ | ⟨g, cap, cs2, rfl, n1, n2, n3, n4, n5, n6⟩
                · simp only [sortB, Prod.mk.injEq] at e
                  obtain ⟨rfl, rfl⟩ := e
                  exact ⟨_, m, rfl, r', s', .nils⟩
                · cases hs : sortB ns with
                  | nil => rw [hs] at hsl; simp at hsl; exact absurd (List.length_eq_zero_iff.1 hsl.symm) n1
                  | cons s ss =>
                    rw [hs] at e hsl n6
                    simp only [Prod.mk.injEq] at e
                    obtain ⟨rfl, rfl⟩ := e
                    have hl : ((s :: ss).map encB).length = ns.length := by rw [List.length_map, hsl]
                    have hun : ∀ b L, m b = some L → L.blk ≠ g := fun b L hb hg => by have := r.rng b L hb; omega
                    have hp := r'.commitX (x := cap - ns.length) (n := 1) n4 hun (cs := (s :: ss).map encB) (by rw [hl, n6]; exact encB_rel _) hT (by rw [hl]; omega)
                    refine ⟨_, _, rfl, hp, s'.commitX r' _ n3, ?_⟩
                    rw [← hsl, List.length_cons]
                    refine .slc (Mp.upd_self _ _ _) (by omega) ?_ (.inl rfl)
                    simp only [List.length_cons] at hsl
                    show cap = (2 * (ss.length + 1) + 1) / 2 + (2 * (ss.length + 1) + 1) % 2 * (cap - (ss.length + 1))
                    rw [show (2 * (ss.length + 1) + 1) % 2 = 1 by omega]
                    omega
      · cases e
  · cases e
end Go.Ev
