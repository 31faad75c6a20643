/- The tree in the heap, some names of which are taken away: Unname. -/
import Derived.Test.YtncmgiddcefpcaaGreatDoorConS
namespace Go.Proofs.YtncmgiddcefpcaaGreatDoor
open Go Go.Ev Go.Con
set_option linter.unusedSimpArgs false
set_option linter.unusedVariables false
set_option maxRecDepth 100000
/-- The tree T, of whose names those of U are left; its segments are still as T has them. -/
structure TreeP (h : Hp) (F : Nat → Prop) (T U : Hi) (bt bl bd bu : Nat) (nb : List Nat) : Prop where
  len : nb.length = T.B.length
  core : CoreAt h bt bl bd bu (fun k => nodeF nb (U.getF k)) U.dirF (fun u => nodeF nb (T.seg u)) ((T.D.length : Int) - 1)
  node : ∀ e ∈ T.L, ∃ n, nb[e.id]? = some n ∧ F n ∧ NodeAt h F n ⟨T.br e.id, e.dir, U.many e.id⟩
  nd : nb.Nodup
  nF : ∀ n ∈ nb, F n
  own : F bt ∧ F bl ∧ F bd ∧ F bu
  lt : ∀ k, F k → k < h.next
  ok : T.Ok
  acl : ∀ i, (T.br i).acl.length ≤ 1000000000
  okU : U.Ok
  sub : ∀ e ∈ U.L, e ∈ T.L
  B : U.B = T.B
  D : U.D = T.D
section
variable {h : Hp} {F : Nat → Prop} {T U : Hi} {bt bl bd bu : Nat} {nb : List Nat}
theorem TreeB.part (t : TreeB h F T bt bl bd bu nb) : TreeP h F T T bt bl bd bu nb := ⟨t.len, t.core, t.node, t.nd, t.nF, t.own, t.lt, t.ok, t.acl, t.ok, fun _ h => h, rfl, rfl⟩
theorem TreeP.whole (t : TreeP h F T U bt bl bd bu nb) (hs : U.seg = T.seg) : TreeB h F U bt bl bd bu nb := by
  have hbr : ∀ i, U.br i = T.br i := fun i => by unfold Hi.br; rw [t.B]
  refine ⟨by rw [t.B]; exact t.len, by rw [hs, t.D]; exact t.core, fun e he => ?_, t.nd, t.nF, t.own, t.lt, t.okU, fun i => by rw [hbr]; exact t.acl i⟩
  rw [hbr]; exact t.node e (t.sub e he)
/-- One more name is taken away. -/
theorem TreeP.take (t : TreeP h F T U bt bl bd bu nb) {e : En} (he : e ∈ U.L) {n : Nat} (hn : nb[e.id]? = some n) {x : Nd} {sl : Value} (hx : h.get n = some (.row (ndC x sl) 110 (.rw 0 []))) {h' : Hp}
    (c : CoreAt h' bt bl bd bu (upd (fun k => nodeF nb (U.getF k)) (e.dir, e.name) none) (upd U.dirF e.dir (some ((U.dirF e.dir).getD 0 - 1))) (fun u => nodeF nb (T.seg u)) ((T.D.length : Int) - 1))
    (hy : h'.get n = some (.row (ndC { x with many := x.many - 1 } sl) 110 (.rw 0 []))) (hnx : h'.next = h.next) (hs : ∀ k, k ≠ bl → k ≠ bd → k ≠ n → h'.get k = h.get k) :
    TreeP h' F T (U.taken e.dir e.name) bt bl bd bu nb := by
  obtain ⟨ok', eG, eC, eM⟩ := t.okU.take he
  have hd : U.is e.dir = true := t.okU.dirs e he
  have sm : Same 65 h h' := ⟨Nat.le_of_eq hnx.symm, fun b all st hb hgb => by
    obtain ⟨e1, e2, e3⟩ := t.core.row_ne hgb
    rw [hs b e1 e2 (get_ne hgb hx (fun e => by simp at e))]; exact hgb⟩
  refine ⟨t.len, ?_, fun a ha => ?_, t.nd, t.nF, t.own, fun k hk => by rw [hnx]; exact t.lt k hk, t.ok, t.acl, ok', fun a ha => t.sub a (List.mem_filter.1 ha).1, t.B, t.D⟩
  · have eL : (fun k => nodeF nb ((U.taken e.dir e.name).getF k)) = upd (fun k => nodeF nb (U.getF k)) (e.dir, e.name) none := by
      rw [eG]
      funext k
      by_cases hk : k = e.key
      · subst hk
        rw [upd_self]; show nodeF nb none = _; exact (upd_self _ _ _).symm
      · rw [upd_ne _ _ hk]; exact (upd_ne (fun k => nodeF nb (U.getF k)) none (show k ≠ (e.dir, e.name) from hk)).symm
    have c0 : (U.dirF e.dir).getD 0 = U.count e.dir := by unfold Hi.dirF; rw [if_pos hd]; rfl
    have eD : (U.taken e.dir e.name).dirF = upd U.dirF e.dir (some ((U.dirF e.dir).getD 0 - 1)) := by
      rw [c0]
      funext d'
      show (if U.is d' = true then some ((U.taken e.dir e.name).count d' : Int) else none) = _
      have h1 := eC d'
      by_cases e2 : d' = e.dir
      · subst e2
        rw [if_pos rfl] at h1
        rw [upd_self, if_pos hd]; congr 1; omega
      · rw [if_neg (Ne.symm e2), Nat.add_zero] at h1
        rw [upd_ne _ _ e2, ← h1]; rfl
    rw [eL, eD]
    exact c
  · obtain ⟨m, h1, h2, sl', h3, h4, h5⟩ := t.node a ha
    have hm := eM a.id
    refine ⟨m, h1, h2, ?_⟩
    by_cases hi : a.id = e.id
    · have hmn : m = n := by rw [hi, hn] at h1; exact (Option.some.inj h1).symm
      subst hmn
      rw [hx] at h4
      simp only [ndC, Option.some.injEq, Ob.row.injEq, List.cons.injEq, Value.int.injEq, true_and, and_true] at h4
      rw [if_pos hi.symm] at hm
      refine ⟨sl', by omega, ?_, h5.same sm fun _ hk => hk⟩
      rw [hy]
      simp only [ndC, Option.some.injEq, Ob.row.injEq, List.cons.injEq, Value.int.injEq, true_and, and_true]
      simp only [h4, true_and]
      omega
    · have hne : m ≠ n := fun e' => hi (nb_inj t.nd (e' ▸ h1) hn)
      have hr := t.core.row_ne h4
      rw [if_neg (Ne.symm hi), Nat.add_zero] at hm
      rw [← hm]
      exact ⟨sl', by omega, by rw [hs m hr.1 hr.2.1 hne]; exact h4, h5.same sm fun _ hk => hk⟩
theorem tUnname_spec (t : TreeAt h F T bt) (hL : T.L.length ≤ 1000000000000) (d : Int) (s : ByteArray) :
    Meets kon 46 [ptrV bt, .int .i64 d, .string s] h fun v h' => v = .int .i64 (T.unname d s).2 ∧ ∃ F', TreeAt h' F' (T.unname d s).1 bt ∧ Upd h F h' F' := by
  obtain ⟨bl, bd, bu, nb, t⟩ := t
  have g1 := (get_spec t.core d s).call
  have g3 := (none_spec bt h).call
  have hcnt : 0 ≤ (T.dirF d).getD 0 ∧ (T.dirF d).getD 0 ≤ 1000000000000 := by
    have := Hi.count_le T d
    unfold Hi.dirF
    split
    · simp; omega
    · simp
  have stay : ∀ {T' : Hi}, T' = T → ∃ F', TreeAt h F' T' bt ∧ Upd h F h F' := fun e => by
    subst e; exact ⟨F, ⟨bl, bd, bu, nb, t⟩, Nat.le_refl _, fun _ _ _ => rfl, fun _ hk => .inl hk⟩
  refine Meets.mk rfl (by kernel_rfl) Tryz.func46 rfl (congrArg Array.toList Tryz.results46) ?_
  cases hg : T.getF (d, s) with
  | none =>
    rw [hg] at g1
    unfold nodeF Option.bind optP at g1
    repeat' (first | simp only [evr, nextP_norm, evd, evq, beq_self_eq_true, cond_true, cond_false, reduceIte, Nat.reduceEqDiff, Nat.reduceAdd, Int.reduceBNe, Int.reduceBEq, Int.reduceLT, Int.reduceLE, Int.reduceEq, evh, evp, Nat.reduceLeDiff, Nat.reduceSub, Nat.reduceBEq, typs, g1, g3] | refine kCond2_by (fun hc => ?_) (fun hc => ?_) <;> try simp only [hc] | refine kPick_by (fun hc => ?_) (fun hc => ?_) <;> try simp only [hc] | refine kWant_by (fun hc => ?_) (fun hc => ?_) <;> try simp only [hc])
    exact ⟨by simp [Hi.unname, Hi.get, hg], stay (by simp [Hi.unname, Hi.get, hg])⟩
  | some i =>
    obtain ⟨e0, he0, hk0, hi0⟩ := Hi.get_some hg
    obtain ⟨n, hn, hFn, sl, hlt, hrow, hsl⟩ := t.node e0 he0
    have hd0 : e0.dir = d := congrArg Prod.fst hk0
    have hn0 : e0.name = s := congrArg Prod.snd hk0
    have e1 : nodeF nb (some i) = some n := by rw [← hi0]; exact hn
    have hr := rowOf_rw hrow
    unfold ndC at hr
    rw [hg, e1] at g1
    unfold optP ptrV at g1
    unfold ptrV
    by_cases hm : T.many i = 1
    · have f1 : (((T.many e0.id : Nat) : Int) == 1) = true := by rw [hi0, hm]; rfl
      repeat' (first | simp only [evr, nextP_norm, evd, evq, beq_self_eq_true, cond_true, cond_false, reduceIte, Nat.reduceEqDiff, Nat.reduceAdd, Int.reduceBNe, Int.reduceBEq, Int.reduceLT, Int.reduceLE, Int.reduceEq, evh, evp, Nat.reduceLeDiff, Nat.reduceSub, Nat.reduceBEq, typs, g1, hr, f1] | refine kCond2_by (fun hc => ?_) (fun hc => ?_) <;> try simp only [hc] | refine kPick_by (fun hc => ?_) (fun hc => ?_) <;> try simp only [hc] | refine kWant_by (fun hc => ?_) (fun hc => ?_) <;> try simp only [hc])
      exact ⟨by simp [Hi.unname, Hi.get, hg, hm], stay (by simp [Hi.unname, Hi.get, hg, hm])⟩
    · have f1 : (((T.many e0.id : Nat) : Int) == 1) = false := by rw [hi0]; simp; omega
      repeat' (first | simp only [evr, nextP_norm, evd, evq, beq_self_eq_true, cond_true, cond_false, reduceIte, Nat.reduceEqDiff, Nat.reduceAdd, Int.reduceBNe, Int.reduceBEq, Int.reduceLT, Int.reduceLE, Int.reduceEq, evh, evp, Nat.reduceLeDiff, Nat.reduceSub, Nat.reduceBEq, typs, g1, hr, f1] | refine kCond2_by (fun hc => ?_) (fun hc => ?_) <;> try simp only [hc] | refine kPick_by (fun hc => ?_) (fun hc => ?_) <;> try simp only [hc] | refine kWant_by (fun hc => ?_) (fun hc => ?_) <;> try simp only [hc])
      have hmn := Hi.many_le T e0.id
      have hf : (fun k => nodeF nb (T.getF k)) (d, s) = some n := by show nodeF nb (T.getF (d, s)) = _; rw [hg, e1]
      refine callP_meets (take_spec t.core hrow d s hf (by omega) (by omega) (show -4000000000000000000 ≤ ((T.many e0.id : Nat) : Int) by omega) (show ((T.many e0.id : Nat) : Int) ≤ 4000000000000000000 by omega)) ?_
      rintro _ h' ⟨rfl, c', hy, hnx, hs'⟩
      repeat' (first | simp only [evr, nextP_norm, evd, evq, beq_self_eq_true, cond_true, cond_false, reduceIte, Nat.reduceEqDiff, Nat.reduceAdd, Int.reduceBNe, Int.reduceBEq, Int.reduceLT, Int.reduceLE, Int.reduceEq, evh, evp, Nat.reduceLeDiff, Nat.reduceSub, Nat.reduceBEq, typs] | refine kCond2_by (fun hc => ?_) (fun hc => ?_) <;> try simp only [hc] | refine kPick_by (fun hc => ?_) (fun hc => ?_) <;> try simp only [hc] | refine kWant_by (fun hc => ?_) (fun hc => ?_) <;> try simp only [hc])
      have hname : T.unname d s = (T.taken d s, 0) := by simp [Hi.unname, Hi.get, hg, hm]
      rw [hname]
      subst hd0 hn0
      have t' := t.part.take he0 hn hrow c' hy hnx hs'
      have t2 := t'.whole (t.ok.seg_taken he0 (by rw [hi0]; exact hm))
      refine ⟨rfl, F, ⟨bl, bd, bu, nb, t2⟩, Nat.le_of_eq hnx.symm, fun k _ hk => ?_, fun k hk => .inl hk⟩
      exact hs' k (fun e => hk (e ▸ t.own.2.1)) (fun e => hk (e ▸ t.own.2.2.1)) (fun e => hk (e ▸ hFn))
end
end Go.Proofs.YtncmgiddcefpcaaGreatDoor
