/- The tree in the heap: Names, Len. -/
import Derived.Test.YtncmgiddcefpcaaGreatDoorConR
namespace Go.Proofs.YtncmgiddcefpcaaGreatDoor
open Go Go.Ev Go.Con
set_option linter.unusedSimpArgs false
set_option linter.unusedVariables false
set_option maxRecDepth 100000
/-- The names of a directory, rising. -/
def sortedN (T : Hi) (d : Int) : List ByteArray := (sortB ((T.namesOf d).map fun s => s.data.toList)).map ofL
theorem look_mem {κ υ : Type} [DecidableEq κ] : ∀ {l : List (κ × υ)} {x : κ}, (mLook l x).isSome = true ↔ x ∈ l.map (·.1)
  | [], x => by simp [mLook]
  | (k, v) :: l, x => by
    simp only [mLook, List.map_cons, List.mem_cons]
    by_cases h : k = x
    · subst h; simp
    · rw [if_neg h, look_mem (l := l)]
      constructor
      · exact .inr
      · rintro (h2 | h2)
        · exact absurd h2.symm h
        · exact h2
theorem namesE_map (d : Int) : ∀ (es : List MapEntry) (ks : List (Int × ByteArray)), es.map (·.key) = ks.map keyK → namesE d es = some ((ks.filter fun k => decide (k.1 = d)).map fun k => k.2.data.toList)
  | [], [], _ => rfl
  | [], _ :: _, h => by simp at h
  | _ :: _, [], h => by simp at h
  | e :: es, k :: ks, h => by
    simp only [List.map_cons, List.cons.injEq] at h
    have ih := namesE_map d es ks h.2
    unfold namesE
    rw [h.1, ih]
    unfold keyK keyName
    by_cases hk : k.1 = d
    · simp [hk]
    · simp [hk]
section
variable {h : Hp} {F : Nat → Prop} {T : Hi} {bt bl bd bu : Nat} {nb : List Nat}
theorem TreeB.keys (t : TreeB h F T bt bl bd bu nb) : ∃ es ck, ∃ ks : List (Int × ByteArray), h.get bl = some (.map es ck) ∧ es.map (·.key) = ks.map keyK ∧ BornOK es ck ∧ ks.Perm (T.L.map En.key) := by
  obtain ⟨l, ⟨es, ck, h1, h2, h3, h4⟩, h5⟩ := t.core.l
  refine ⟨es, ck, l.map (·.1), h1, ?_, h3, ?_⟩
  · have := congrArg (List.map Prod.fst) h2
    simpa [List.map_map, Function.comp_def] using this
  · rw [List.perm_ext_iff_of_nodup h4 t.ok.keys]
    intro x
    rw [← look_mem, h5 x, nodeF_isSome (t.getlt x)]
    constructor
    · intro hs
      obtain ⟨i, hi⟩ := Option.isSome_iff_exists.1 hs
      obtain ⟨e, he, hk, _⟩ := Hi.get_some hi
      exact List.mem_map.2 ⟨e, he, hk⟩
    · intro hs
      obtain ⟨e, he, rfl⟩ := List.mem_map.1 hs
      rw [t.ok.get_of he]; rfl
theorem nodupB_of : ∀ {l : List Nat}, l.Nodup → nodupB l = true
  | [], _ => rfl
  | x :: l, h => by
    rw [List.nodup_cons] at h
    unfold nodupB
    rw [nodupB_of h.2, Bool.and_true, Bool.not_eq_true', List.any_eq_false]
    intro y hy e
    have : x = y := Nat.eq_of_beq_eq_true e
    exact h.1 (this ▸ hy)
theorem tNames_spec (t : TreeAt h F T bt) (hL : T.L.length ≤ 1000000000) (d : Int) :
    Meets kon 73 [ptrV bt, .int .i64 d] h fun v h' => Keep h h' ∧ SlTy h' (fun k => h.next ≤ k) 9 1 v (strs (sortedN T d)) := by
  obtain ⟨bl, bd, bu, nb, t⟩ := t
  obtain ⟨es, ck, ks, h1, h2, h3, h4⟩ := t.keys
  have hr := rowOf_rw t.core.row
  have hlen : es.length ≤ 1073741824 := by
    have e1 := congrArg List.length h2
    have e2 := h4.length_eq
    simp only [List.length_map] at e1 e2
    omega
  have hborn : bornB es ck = true := by
    unfold bornB
    rw [nodupB_of h3.1, Bool.true_and, List.all_eq_true]
    intro e he; exact decide_eq_true (h3.2 e he)
  have hn := namesE_map d es ks h2
  have hsort : sortB ((ks.filter fun k => decide (k.1 = d)).map fun k => k.2.data.toList) = sortB ((T.namesOf d).map fun s => s.data.toList) := by
    apply sortB_uniq ?_ (sortB_sorted _)
    refine (sortB_perm _).trans ?_
    have hp := (h4.filter fun k => decide (k.1 = d)).map fun k => k.2.data.toList
    refine hp.trans (List.Perm.of_eq ?_)
    unfold Hi.namesOf
    rw [List.filter_map, List.map_map, List.map_map]
    rfl
  have hs : sumNames 9 [ptrV bt, .int .i64 d] h = some (match sortB ((T.namesOf d).map fun s => s.data.toList) with
      | [] => (.slice none 0 0, h)
      | s :: ss => (.slice (some ⟨h.next, 0, none⟩) (ss.length + 1) (2 * (ss.length + 1) + 1), h.push (.row ((s :: ss).map encB) 9 (.rw 0 [])))) := by
    show ((rowOf h bt).bind _) = _
    rw [hr]
    simp only [Option.bind_some]
    rw [h1]
    simp only [hborn, hlen, decide_true, Bool.and_self, cond_true, hn, Option.map_some, hsort]
    cases sortB ((T.namesOf d).map fun s => s.data.toList) <;> rfl
  have henc : ∀ l : List (List UInt8), l.map encB = strs (l.map ofL) := fun l => by simp [strs, encB, ofL, Function.comp_def]
  unfold sortedN
  cases hb : sortB ((T.namesOf d).map fun s => s.data.toList) with
  | nil =>
    rw [hb] at hs
    exact ⟨_, _, Ret.sum (s := sumNames 9) rfl hs, Keep.refl _, .inl ⟨rfl, rfl⟩⟩
  | cons s ss =>
    rw [hb] at hs
    refine ⟨_, _, Ret.sum (s := sumNames 9) rfl hs, Keep.push _ _, .inr ⟨h.next, 0, ss.length + 1, 2 * (ss.length + 1) + 1, _, _, rfl, by omega, Nat.le_refl _, Nat.lt_succ_self _, Hp.get_push_self _ _, trivial, ?_, ?_⟩⟩
    · simp [strs]
    · rw [henc, List.drop_zero, List.take_of_length_le (by simp [strs])]
end
end Go.Proofs.YtncmgiddcefpcaaGreatDoor
