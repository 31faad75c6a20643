/- The tree in the heap: Delete. -/
import Derived.Test.YtncmgiddcefpcaaGreatDoorConTk
namespace Go.Proofs.YtncmgiddcefpcaaGreatDoor
open Go Go.Ev Go.Con
set_option linter.unusedSimpArgs false
set_option linter.unusedVariables false
set_option maxRecDepth 100000
section
variable {h : Hp} {F : Nat → Prop} {T U : Hi} {bt bl bd bu : Nat} {nb : List Nat}
theorem sortedN_mem {T : Hi} {d : Int} {s : ByteArray} : s ∈ sortedN T d ↔ ∃ e ∈ T.L, e.key = (d, s) := by
  unfold sortedN
  rw [List.mem_map]
  constructor
  · rintro ⟨l, hl, rfl⟩
    rw [(sortB_perm _).mem_iff, List.mem_map] at hl
    obtain ⟨s, hs, rfl⟩ := hl
    unfold Hi.namesOf at hs
    obtain ⟨e, he, rfl⟩ := List.mem_map.1 hs
    obtain ⟨he, hd⟩ := List.mem_filter.1 he
    refine ⟨e, he, ?_⟩
    rw [ofL_of]
    unfold En.key
    rw [of_decide_eq_true hd]
  · rintro ⟨e, he, hk⟩
    have hd : e.dir = d := congrArg Prod.fst hk
    have hn : e.name = s := congrArg Prod.snd hk
    refine ⟨s.data.toList, ?_, ofL_of s⟩
    rw [(sortB_perm _).mem_iff, List.mem_map]
    refine ⟨s, ?_, rfl⟩
    unfold Hi.namesOf
    exact List.mem_map.2 ⟨e, List.mem_filter.2 ⟨he, decide_eq_true hd⟩, hn⟩
theorem sortedN_nodup (ok : T.Ok) (d : Int) : (sortedN T d).Nodup := by
  unfold sortedN
  have h1 : (T.namesOf d).Nodup := by
    unfold Hi.namesOf
    have h2 : ((T.L.filter fun e => decide (e.dir = d)).map En.key).Nodup := (List.filter_sublist.map _).nodup ok.keys
    have h3 : (T.L.filter fun e => decide (e.dir = d)).map En.key = ((T.L.filter fun e => decide (e.dir = d)).map (·.name)).map fun s => (d, s) := by
      rw [List.map_map]
      refine List.map_congr_left fun e he => ?_
      have := of_decide_eq_true (List.mem_filter.1 he).2
      show (e.dir, e.name) = (d, e.name)
      rw [this]
    rw [h3] at h2
    exact List.Pairwise.of_map (fun s => (d, s)) (fun a b hab e => hab (by rw [e])) h2
  have h4 : ((T.namesOf d).map fun s => s.data.toList).Nodup := List.Pairwise.map (S := fun a b => a ≠ b) _ (fun a b hab e => hab (ba_ext e)) h1
  have h5 := ((sortB_perm ((T.namesOf d).map fun s => s.data.toList)).symm.nodup h4)
  exact List.Pairwise.map (S := fun a b => a ≠ b) _ (fun a b hab e => hab (by have := congrArg (fun x : ByteArray => x.data.toList) e; simpa [ofL] using this)) h5
def zeroC : List Value := [.int .i64 0, .int .i64 0, .int .i64 0, .string ByteArray.empty, .bool false, .slice none 0 0, .int .i64 0, .int .i64 0, .int .i64 0, .int .i64 0]
def DelP (h : Hp) (F : Nat → Prop) (bt : Nat) (r : Hi × Bn × Int) (v : Value) (h' : Hp) : Prop :=
  (∃ sl', v = .tuple #[.agg (bnC r.2.1 sl').toArray, .int .i64 r.2.2] ∧ TmTy h' (fun k => h.next ≤ k) sl' r.2.1.acl) ∧ ∃ F', TreeAt h' F' r.1 bt ∧ Upd h F h' F'
structure DelI (H : Hp) (F : Nat → Prop) (T : Hi) (i bt bl bd bu : Nat) (nb : List Nat) (z : Nat) (l : Value) (ns : List ByteArray) (h' : Hp) (k : Nat) : Prop where
  t : TreeP h' F T (T.part i (ns.take k)) bt bl bd bu nb
  l : SlTy h' (fun j => H.next ≤ j) 9 1 l (strs ns)
  z : h'.get z = some (.row zeroC 40 (.rw 0 []))
  next : H.next ≤ h'.next
  same : ∀ j, j < H.next → ¬ F j → h'.get j = H.get j
theorem TreeP.gone {i : Nat} {ns : List ByteArray} (t : TreeP h F T (T.part i ns) bt bl bd bu nb) (hU : (T.part i ns).L = T.L.filter fun e => !decide (e.id = i)) {d : Int} {s : ByteArray} (hg : T.get d s = some i)
    (hc : (T.br i).kind = 2 → T.count (T.br i).dir = 0) {h' : Hp}
    (c : CoreAt h' bt bl bd bu (fun k => nodeF nb ((T.part i ns).getF k)) (if (T.br i).kind = 2 then upd (T.part i ns).dirF (T.br i).dir none else (T.part i ns).dirF)
      (if (T.br i).kind = 1 then upd (fun u => nodeF nb (T.seg u)) (T.br i).uid none else fun u => nodeF nb (T.seg u)) ((T.D.length : Int) - 1))
    (hn : h'.next = h.next) (hs : ∀ k, k ≠ bd → k ≠ bu → h'.get k = h.get k) : TreeB h' F (T.gone i) bt bl bd bu nb ∧ ∀ e ∈ T.L, ∃ n, nb[e.id]? = some n ∧ F n ∧ NodeAt h' F n ⟨T.br e.id, e.dir, (T.part i ns).many e.id⟩ := by
  obtain ⟨ok', eG, eS, eD⟩ := t.ok.gone hg hc
  have hP : T.part i ns = ⟨T.B, T.L.filter fun e => !decide (e.id = i), T.D⟩ := by
    show (Hi.mk T.B (T.part i ns).L T.D) = _
    rw [hU]
  have sm : Same 65 h h' := ⟨Nat.le_of_eq hn.symm, fun b all st hb hgb => by
    obtain ⟨e1, e2, e3⟩ := t.core.row_ne hgb
    rw [hs b e2 e3]; exact hgb⟩
  have node : ∀ e ∈ T.L, ∃ n, nb[e.id]? = some n ∧ F n ∧ NodeAt h' F n ⟨T.br e.id, e.dir, (T.part i ns).many e.id⟩ := fun e he => by
    obtain ⟨m, h1, h2, sl, h3, h4, h5⟩ := t.node e he
    have hr := t.core.row_ne h4
    exact ⟨m, h1, h2, sl, by omega, by rw [hs m hr.2.1 hr.2.2]; exact h4, h5.same sm fun _ hk => hk⟩
  have hm : ∀ j, (T.gone i).many j = (T.part i ns).many j := fun j => by rw [hP]; rfl
  have hlen : (T.gone i).D.length = T.D.length := by unfold Hi.gone; dsimp only; split <;> simp
  refine ⟨⟨t.len, ?_, fun e he => ?_, t.nd, t.nF, t.own, fun k hk => by rw [hn]; exact t.lt k hk, ok', t.acl⟩, node⟩
  · have eS' : (fun u => nodeF nb ((T.gone i).seg u)) = if (T.br i).kind = 1 then upd (fun u => nodeF nb (T.seg u)) (T.br i).uid none else fun u => nodeF nb (T.seg u) := by
      rw [eS]
      split
      · funext u
        by_cases hu : u = (T.br i).uid
        · subst hu; rw [upd_self, upd_self]; rfl
        · rw [upd_ne _ _ hu, upd_ne _ _ hu]
      · rfl
    rw [eG, eD, eS', hlen, ← hP]
    exact c
  · rw [hm]
    exact node e (List.mem_filter.1 he).1
theorem tDelete_spec (t : TreeAt h F T bt) (hL : T.L.length ≤ 1000000000) (d : Int) (s : ByteArray) :
    Meets kon 36 [ptrV bt, .int .i64 d, .string s] h (DelP h F bt (T.delete d s)) := by
  obtain ⟨bl, bd, bu, nb, t⟩ := t
  refine Meets.mk rfl (by kernel_rfl) Tryz.func36 rfl (congrArg Array.toList Tryz.results36) ?_
  repeat' (first | simp only [evr, nextP_norm, evd, evq, beq_self_eq_true, cond_true, cond_false, reduceIte, Nat.reduceEqDiff, Nat.reduceAdd, Int.reduceBNe, Int.reduceBEq, Int.reduceLT, Int.reduceLE, Int.reduceEq, evh, evp, Nat.reduceLeDiff, Nat.reduceSub, Nat.reduceBEq, typs] | refine kCond2_by (fun hc => ?_) (fun hc => ?_) <;> try simp only [hc] | refine kPick_by (fun hc => ?_) (fun hc => ?_) <;> try simp only [hc] | refine kWant_by (fun hc => ?_) (fun hc => ?_) <;> try simp only [hc])
  generalize hh : Hp.push h _ = H
  have g6 : H.get h.next = some (.row zeroC 40 (.rw 0 [])) := by rw [← hh]; exact Hp.get_push_self _ _
  have hk : Keep h H := by rw [← hh]; exact Keep.push _ _
  have hx : H.next = h.next + 1 := by rw [← hh]; rfl
  clear hh
  have tH : TreeB H F T bt bl bd bu nb := t.keep hk.1 fun j hj => hk.2 j (t.lt j hj)
  have g1 := (get_spec tH.core d s).call
  have g3 := (none_spec bt H).call
  have q6 := rowOf_rw g6
  unfold zeroC at g6 q6
  cases hg : T.getF (d, s) with
  | none =>
    rw [hg] at g1
    unfold nodeF Option.bind optP at g1
    repeat' (first | simp only [evr, nextP_norm, evd, evq, beq_self_eq_true, cond_true, cond_false, reduceIte, Nat.reduceEqDiff, Nat.reduceAdd, Int.reduceBNe, Int.reduceBEq, Int.reduceLT, Int.reduceLE, Int.reduceEq, evh, evp, Nat.reduceLeDiff, Nat.reduceSub, Nat.reduceBEq, typs, g1, g3, g6, q6] | refine kCond2_by (fun hc => ?_) (fun hc => ?_) <;> try simp only [hc] | refine kPick_by (fun hc => ?_) (fun hc => ?_) <;> try simp only [hc] | refine kWant_by (fun hc => ?_) (fun hc => ?_) <;> try simp only [hc])
    have e : T.delete d s = (T, noBn, 4) := by simp [Hi.delete, Hi.get, hg]
    rw [e]
    exact ⟨⟨.slice none 0 0, rfl, .inl ⟨rfl, rfl⟩⟩, F, ⟨bl, bd, bu, nb, t.keep hk.1 fun j hj => by rw [Hp.get_set_ne (by have := t.lt j hj; omega)]; exact hk.2 j (t.lt j hj)⟩, Upd.keep (hk.set (Nat.le_refl _))⟩
  | some i =>
    obtain ⟨e0, he0, hk0, hi0⟩ := Hi.get_some hg
    obtain ⟨n, hn, hFn, sl, hlt, hrow, hsl⟩ := tH.node e0 he0
    have hd0 : e0.dir = d := congrArg Prod.fst hk0
    have hn0 : e0.name = s := congrArg Prod.snd hk0
    rw [hi0] at hn hrow hsl
    have e1 : nodeF nb (some i) = some n := hn
    have hr := rowOf_rw hrow
    have r0 := rowOf_rw tH.core.row
    unfold ndC at hr
    rw [hg, e1] at g1
    unfold optP ptrV at g1
    unfold ptrV
    repeat' (first | simp only [evr, nextP_norm, evd, evq, beq_self_eq_true, cond_true, cond_false, reduceIte, Nat.reduceEqDiff, Nat.reduceAdd, Int.reduceBNe, Int.reduceBEq, Int.reduceLT, Int.reduceLE, Int.reduceEq, evh, evp, Nat.reduceLeDiff, Nat.reduceSub, Nat.reduceBEq, typs, g1] | refine kCond2_by (fun hc => ?_) (fun hc => ?_) <;> try simp only [hc] | refine kPick_by (fun hc => ?_) (fun hc => ?_) <;> try simp only [hc] | refine kWant_by (fun hc => ?_) (fun hc => ?_) <;> try simp only [hc])
    by_cases hbusy : (T.br i).kind = 2 ∧ 0 < T.count (T.br i).dir
    · have f1 : ((T.br i).kind == 2) = true := by simp [hbusy.1]
      have his : T.is (T.br i).dir = true := by
        obtain ⟨e, he, h1⟩ := Hi.count_pos.1 hbusy.2
        rw [← h1]; exact t.ok.dirs e he
      have hl := tH.core.lookD (T.br i).dir false
      have hD : T.dirF (T.br i).dir = some (T.count (T.br i).dir : Int) := by unfold Hi.dirF; rw [if_pos his]
      rw [hD] at hl
      simp only [cond_false] at hl
      have f2 : decide ((0 : Int) < (T.count (T.br i).dir : Nat)) = true := by simp; omega
      refine Eq.mpr (Wp_drawOrd (KR.mk (by kernel_rfl))) ?_
      repeat' (first | simp only [evr, nextP_norm, evd, evq, beq_self_eq_true, cond_true, cond_false, reduceIte, Nat.reduceEqDiff, Nat.reduceAdd, Int.reduceBNe, Int.reduceBEq, Int.reduceLT, Int.reduceLE, Int.reduceEq, evh, evp, Nat.reduceLeDiff, Nat.reduceSub, Nat.reduceBEq, typs, g1, hr, r0, f1, hl, f2, g6, q6] | refine kCond2_by (fun hc => ?_) (fun hc => ?_) <;> try simp only [hc] | refine kPick_by (fun hc => ?_) (fun hc => ?_) <;> try simp only [hc] | refine kWant_by (fun hc => ?_) (fun hc => ?_) <;> try simp only [hc])
      have e : T.delete d s = (T, noBn, 16) := by simp [Hi.delete, Hi.get, hg, hbusy]
      rw [e]
      exact ⟨⟨.slice none 0 0, rfl, .inl ⟨rfl, rfl⟩⟩, F, ⟨bl, bd, bu, nb, t.keep hk.1 fun j hj => by rw [Hp.get_set_ne (by have := t.lt j hj; omega)]; exact hk.2 j (t.lt j hj)⟩, Upd.keep (hk.set (Nat.le_refl _))⟩
    · have hl := tH.core.lookD (T.br i).dir false
      have hD : (T.br i).kind = 2 → (T.dirF (T.br i).dir).getD 0 = 0 := fun hk2 => by
        have h0 : T.count (T.br i).dir = 0 := Nat.eq_zero_of_not_pos fun hp => hbusy ⟨hk2, hp⟩
        unfold Hi.dirF; split
        · rw [h0]; rfl
        · rfl
      have hl2 : (T.br i).kind = 2 → evLookup kon.P 89 (.map (some bd)) (.int .i64 (T.br i).dir) false H = some (.int .i64 0) := fun hk2 => by
        have := hD hk2
        rw [hl]
        cases hq : T.dirF (T.br i).dir with
        | none => rfl
        | some x => rw [hq] at this; simp at this; subst this; rfl
      refine Wp.mono (Q := fun e fr' h' => e = Ex.norm ∧ h' = H ∧ fr'.get 0 = some (.pointer (some ⟨bt, 0, none⟩)) ∧ fr'.get 1 = some (.int .i64 d) ∧ fr'.get 6 = some (.pointer (some ⟨h.next, 0, none⟩)) ∧ fr'.get 8 = some (.pointer (some ⟨n, 0, none⟩)) ∧ fr'.get 23 = some (.bool false)) ?_ ?_
      · by_cases hk2 : (T.br i).kind = 2
        · have f1 : ((T.br i).kind == 2) = true := by simp [hk2]
          have f2 := hl2 hk2
          refine Eq.mpr (Wp_drawOrd (KR.mk (by kernel_rfl))) ?_
          repeat' (first | simp only [evr, nextP_norm, evd, evq, beq_self_eq_true, cond_true, cond_false, reduceIte, Nat.reduceEqDiff, Nat.reduceAdd, Int.reduceBNe, Int.reduceBEq, Int.reduceLT, Int.reduceLE, Int.reduceEq, evh, evp, Nat.reduceLeDiff, Nat.reduceSub, Nat.reduceBEq, typs, g1, hr, r0, f1, f2, Int.lt_irrefl] | refine kCond2_by (fun hc => ?_) (fun hc => ?_) <;> try simp only [hc] | refine kPick_by (fun hc => ?_) (fun hc => ?_) <;> try simp only [hc] | refine kWant_by (fun hc => ?_) (fun hc => ?_) <;> try simp only [hc])
        · have f1 : ((T.br i).kind == 2) = false := by simp [hk2]
          refine Eq.mpr (Wp_drawOrd (KR.mk (by kernel_rfl))) ?_
          repeat' (first | simp only [evr, nextP_norm, evd, evq, beq_self_eq_true, cond_true, cond_false, reduceIte, Nat.reduceEqDiff, Nat.reduceAdd, Int.reduceBNe, Int.reduceBEq, Int.reduceLT, Int.reduceLE, Int.reduceEq, evh, evp, Nat.reduceLeDiff, Nat.reduceSub, Nat.reduceBEq, typs, g1, hr, r0, f1] | refine kCond2_by (fun hc => ?_) (fun hc => ?_) <;> try simp only [hc] | refine kPick_by (fun hc => ?_) (fun hc => ?_) <;> try simp only [hc] | refine kWant_by (fun hc => ?_) (fun hc => ?_) <;> try simp only [hc])
      rintro ex fr Hx ⟨hE, hH, a0, a1, a6, a8, a23⟩
      rw [hE, hH]
      clear hE hH ex Hx
      repeat' (first | simp only [evr, nextP_norm, evd, evq, beq_self_eq_true, cond_true, cond_false, reduceIte, Nat.reduceEqDiff, Nat.reduceAdd, Int.reduceBNe, Int.reduceBEq, Int.reduceLT, Int.reduceLE, Int.reduceEq, evh, evp, Nat.reduceLeDiff, Nat.reduceSub, Nat.reduceBEq, typs, a23, a0, a1] | refine kCond2_by (fun hc => ?_) (fun hc => ?_) <;> try simp only [hc] | refine kPick_by (fun hc => ?_) (fun hc => ?_) <;> try simp only [hc] | refine kWant_by (fun hc => ?_) (fun hc => ?_) <;> try simp only [hc])
      refine callP_meets (tNames_spec ⟨bl, bd, bu, nb, tH⟩ hL d) ?_
      rintro l h1 ⟨k1, hls⟩
      have hll := StrSl.len hls.slAt
      have hlen : (sortedN T d).length ≤ 1000000000 := by
        unfold sortedN Hi.namesOf
        rw [List.length_map, (sortB_perm _).length_eq, List.length_map, List.length_map]
        exact Nat.le_trans (List.length_filter_le _ _) hL
      have hmem := fun x => sortedN_mem (T := T) (d := d) (s := x)
      have hnd := sortedN_nodup t.ok d
      generalize hns : sortedN T d = ns at *
      repeat' (first | simp only [evr, nextP_norm, evd, evq, beq_self_eq_true, cond_true, cond_false, reduceIte, Nat.reduceEqDiff, Nat.reduceAdd, Int.reduceBNe, Int.reduceBEq, Int.reduceLT, Int.reduceLE, Int.reduceEq, evh, evp, Nat.reduceLeDiff, Nat.reduceSub, Nat.reduceBEq, typs, hll, a0, a1, a6, a8] | refine kCond2_by (fun hc => ?_) (fun hc => ?_) <;> try simp only [hc] | refine kPick_by (fun hc => ?_) (fun hc => ?_) <;> try simp only [hc] | refine kWant_by (fun hc => ?_) (fun hc => ?_) <;> try simp only [hc])
      have I0 : DelI H F T i bt bl bd bu nb h.next l ns h1 0 := by
        refine ⟨?_, hls, (k1.2 _ (by omega)).trans g6, k1.1, fun j hj _ => k1.2 j hj⟩
        rw [List.take_zero, Hi.part_nil]
        exact (tH.keep k1.1 fun j hj => k1.2 j (tH.lt j hj)).part
      refine Wp_loop (fun m fr h' => ∃ k : Nat, m = ns.length - k ∧ k ≤ ns.length ∧ fr.get 0 = some (.pointer (some ⟨bt, 0, none⟩)) ∧ fr.get 1 = some (.int .i64 d) ∧ fr.get 6 = some (.pointer (some ⟨h.next, 0, none⟩)) ∧ fr.get 8 = some (.pointer (some ⟨n, 0, none⟩)) ∧
        fr.get 46 = some l ∧ fr.get 47 = some (.int .i64 ns.length) ∧ fr.get 48 = some (.int .i64 k) ∧ DelI H F T i bt bl bd bu nb h.next l ns h' k) ns.length ⟨0, rfl, Nat.zero_le _, ?_, ?_, ?_, ?_, ?_, ?_, ?_, I0⟩ ?_
      · repeat' (first | simp only [evr, nextP_norm, evd, evq, beq_self_eq_true, cond_true, cond_false, reduceIte, Nat.reduceEqDiff, Nat.reduceAdd, Int.reduceBNe, Int.reduceBEq, Int.reduceLT, Int.reduceLE, Int.reduceEq, evh, evp, Nat.reduceLeDiff, Nat.reduceSub, Nat.reduceBEq, typs, a0] | refine kCond2_by (fun hc => ?_) (fun hc => ?_) <;> try simp only [hc] | refine kPick_by (fun hc => ?_) (fun hc => ?_) <;> try simp only [hc] | refine kWant_by (fun hc => ?_) (fun hc => ?_) <;> try simp only [hc])
      · repeat' (first | simp only [evr, nextP_norm, evd, evq, beq_self_eq_true, cond_true, cond_false, reduceIte, Nat.reduceEqDiff, Nat.reduceAdd, Int.reduceBNe, Int.reduceBEq, Int.reduceLT, Int.reduceLE, Int.reduceEq, evh, evp, Nat.reduceLeDiff, Nat.reduceSub, Nat.reduceBEq, typs, a1] | refine kCond2_by (fun hc => ?_) (fun hc => ?_) <;> try simp only [hc] | refine kPick_by (fun hc => ?_) (fun hc => ?_) <;> try simp only [hc] | refine kWant_by (fun hc => ?_) (fun hc => ?_) <;> try simp only [hc])
      · repeat' (first | simp only [evr, nextP_norm, evd, evq, beq_self_eq_true, cond_true, cond_false, reduceIte, Nat.reduceEqDiff, Nat.reduceAdd, Int.reduceBNe, Int.reduceBEq, Int.reduceLT, Int.reduceLE, Int.reduceEq, evh, evp, Nat.reduceLeDiff, Nat.reduceSub, Nat.reduceBEq, typs, a6] | refine kCond2_by (fun hc => ?_) (fun hc => ?_) <;> try simp only [hc] | refine kPick_by (fun hc => ?_) (fun hc => ?_) <;> try simp only [hc] | refine kWant_by (fun hc => ?_) (fun hc => ?_) <;> try simp only [hc])
      · repeat' (first | simp only [evr, nextP_norm, evd, evq, beq_self_eq_true, cond_true, cond_false, reduceIte, Nat.reduceEqDiff, Nat.reduceAdd, Int.reduceBNe, Int.reduceBEq, Int.reduceLT, Int.reduceLE, Int.reduceEq, evh, evp, Nat.reduceLeDiff, Nat.reduceSub, Nat.reduceBEq, typs, a8] | refine kCond2_by (fun hc => ?_) (fun hc => ?_) <;> try simp only [hc] | refine kPick_by (fun hc => ?_) (fun hc => ?_) <;> try simp only [hc] | refine kWant_by (fun hc => ?_) (fun hc => ?_) <;> try simp only [hc])
      · repeat' (first | simp only [evr, nextP_norm, evd, evq, beq_self_eq_true, cond_true, cond_false, reduceIte, Nat.reduceEqDiff, Nat.reduceAdd, Int.reduceBNe, Int.reduceBEq, Int.reduceLT, Int.reduceLE, Int.reduceEq, evh, evp, Nat.reduceLeDiff, Nat.reduceSub, Nat.reduceBEq, typs] | refine kCond2_by (fun hc => ?_) (fun hc => ?_) <;> try simp only [hc] | refine kPick_by (fun hc => ?_) (fun hc => ?_) <;> try simp only [hc] | refine kWant_by (fun hc => ?_) (fun hc => ?_) <;> try simp only [hc])
      · repeat' (first | simp only [evr, nextP_norm, evd, evq, beq_self_eq_true, cond_true, cond_false, reduceIte, Nat.reduceEqDiff, Nat.reduceAdd, Int.reduceBNe, Int.reduceBEq, Int.reduceLT, Int.reduceLE, Int.reduceEq, evh, evp, Nat.reduceLeDiff, Nat.reduceSub, Nat.reduceBEq, typs] | refine kCond2_by (fun hc => ?_) (fun hc => ?_) <;> try simp only [hc] | refine kPick_by (fun hc => ?_) (fun hc => ?_) <;> try simp only [hc] | refine kWant_by (fun hc => ?_) (fun hc => ?_) <;> try simp only [hc])
      · repeat' (first | simp only [evr, nextP_norm, evd, evq, beq_self_eq_true, cond_true, cond_false, reduceIte, Nat.reduceEqDiff, Nat.reduceAdd, Int.reduceBNe, Int.reduceBEq, Int.reduceLT, Int.reduceLE, Int.reduceEq, evh, evp, Nat.reduceLeDiff, Nat.reduceSub, Nat.reduceBEq, typs] | refine kCond2_by (fun hc => ?_) (fun hc => ?_) <;> try simp only [hc] | refine kPick_by (fun hc => ?_) (fun hc => ?_) <;> try simp only [hc] | refine kWant_by (fun hc => ?_) (fun hc => ?_) <;> try simp only [hc])
        rfl
      clear a0 a1 a6 a8 a23 I0
      rintro m fr2 h2 ⟨k, rfl, hk2, a0, a1, a6, a8, a46, a47, a48, I⟩
      by_cases h3 : k < ns.length
      · have e3 : decide ((k : Int) < ns.length) = true := by simp; omega
        obtain ⟨p, x1, x2⟩ := StrSl.at I.l.slAt (List.getElem?_eq_getElem h3)
        repeat' (first | simp only [evr, nextP_norm, evd, evq, beq_self_eq_true, cond_true, cond_false, reduceIte, Nat.reduceEqDiff, Nat.reduceAdd, Int.reduceBNe, Int.reduceBEq, Int.reduceLT, Int.reduceLE, Int.reduceEq, evh, evp, Nat.reduceLeDiff, Nat.reduceSub, Nat.reduceBEq, typs, a0, a1, a6, a8, a46, a47, a48, e3, x1, x2] | refine kCond2_by (fun hc => ?_) (fun hc => ?_) <;> try simp only [hc] | refine kPick_by (fun hc => ?_) (fun hc => ?_) <;> try simp only [hc] | refine kWant_by (fun hc => ?_) (fun hc => ?_) <;> try simp only [hc])
        have hxm : ns[k] ∈ ns := List.getElem_mem h3
        have hnot : ns[k] ∉ ns.take k := fun hc => by
          obtain ⟨j, hj, he⟩ := List.mem_take_iff_getElem.1 hc
          have := (List.getElem?_inj (i := j) (j := k) (by omega) hnd).1 (by rw [List.getElem?_eq_getElem (by omega), List.getElem?_eq_getElem h3, he])
          omega
        obtain ⟨e, he, hke⟩ := (hmem _).1 hxm
        have hTg : T.getF (d, ns[k]) = some e.id := by rw [← hke]; exact t.ok.get_of he
        have hUg : (T.part i (ns.take k)).getF (d, ns[k]) = some e.id := by
          have := Hi.part_get t.ok (i := i) (d := d) hnot
          exact this.trans hTg
        obtain ⟨n2, hn2, hF2, sl2, hlt2, hrow2, hsl2⟩ := I.t.node e he
        have gx := (get_spec I.t.core d ns[k]).call
        have e2 : nodeF nb (some e.id) = some n2 := hn2
        rw [hUg, e2] at gx
        unfold optP ptrV at gx
        obtain ⟨n0, hn0', hF0, sl0, hlt0, hrow0, hsl0⟩ := I.t.node e0 he0
        rw [hi0] at hn0' hrow0
        have hn00 : n0 = n := by rw [hn] at hn0'; exact (Option.some.inj hn0').symm
        subst hn00
        have al0 : aliveOb (h2.get n0) = true := by rw [hrow0]; rfl
        have al2 : aliveOb (h2.get n2) = true := by rw [hrow2]; rfl
        have hdirs : ∀ e ∈ T.L, e.id = i → e.dir = d := fun a ha hai => by rw [t.ok.homes a ha e0 he0 (hai.trans hi0.symm)]; exact hd0
        have w1 := wrap64 (x := (k : Int) + 1) (by omega) (by omega)
        by_cases hii : e.id = i
        · have hnn : n2 = n0 := by rw [hii, hn] at hn2; exact (Option.some.inj hn2).symm
          subst hnn
          repeat' (first | simp only [evr, nextP_norm, evd, evq, beq_self_eq_true, cond_true, cond_false, reduceIte, Nat.reduceEqDiff, Nat.reduceAdd, Int.reduceBNe, Int.reduceBEq, Int.reduceLT, Int.reduceLE, Int.reduceEq, evh, evp, Nat.reduceLeDiff, Nat.reduceSub, Nat.reduceBEq, typs, a0, a1, a6, a8, a46, a47, a48, gx, al0, Bool.and_self] | refine kCond2_by (fun hc => ?_) (fun hc => ?_) <;> try simp only [hc] | refine kPick_by (fun hc => ?_) (fun hc => ?_) <;> try simp only [hc] | refine kWant_by (fun hc => ?_) (fun hc => ?_) <;> try simp only [hc])
          have hUL : (T.part i (ns.take k)).L.length ≤ T.L.length := List.length_filter_le _ _
          have hcnt : 0 ≤ ((T.part i (ns.take k)).dirF d).getD 0 ∧ ((T.part i (ns.take k)).dirF d).getD 0 ≤ 1000000000000 := by
            have := Hi.count_le (T.part i (ns.take k)) d
            unfold Hi.dirF
            split
            · simp; omega
            · simp
          have hmn := Hi.many_le (T.part i (ns.take k)) i
          have hf : (fun x => nodeF nb ((T.part i (ns.take k)).getF x)) (d, ns[k]) = some n2 := by show nodeF nb _ = _; rw [hUg]; exact e2
          refine callP_meets (take_spec I.t.core hrow0 d ns[k] hf (by omega) (by omega) (show -4000000000000000000 ≤ (((T.part i (ns.take k)).many i : Nat) : Int) by omega) (show (((T.part i (ns.take k)).many i : Nat) : Int) ≤ 4000000000000000000 by omega)) ?_
          rintro _ h3' ⟨rfl, c', hy, hnx, hs'⟩
          repeat' (first | simp only [evr, nextP_norm, evd, evq, beq_self_eq_true, cond_true, cond_false, reduceIte, Nat.reduceEqDiff, Nat.reduceAdd, Int.reduceBNe, Int.reduceBEq, Int.reduceLT, Int.reduceLE, Int.reduceEq, evh, evp, Nat.reduceLeDiff, Nat.reduceSub, Nat.reduceBEq, typs, a0, a1, a6, a8, a46, a47, a48, w1] | refine kCond2_by (fun hc => ?_) (fun hc => ?_) <;> try simp only [hc] | refine kPick_by (fun hc => ?_) (fun hc => ?_) <;> try simp only [hc] | refine kWant_by (fun hc => ?_) (fun hc => ?_) <;> try simp only [hc])
          obtain ⟨eU, heU, hkU, hiU⟩ := Hi.get_some hUg
          have hd1 : eU.dir = d := congrArg Prod.fst hkU
          have hn1 : eU.name = ns[k] := congrArg Prod.snd hkU
          have hp : T.part i (ns.take (k + 1)) = (T.part i (ns.take k)).taken eU.dir eU.name := by
            rw [hd1, hn1, ← Hi.part_yes t.ok hdirs (hTg.trans (congrArg some hii)), ← List.take_append_getElem h3]
          rw [← hd1, ← hn1] at c'
          have t' := I.t.take heU (by rw [hiU]; exact hn2) hrow0 c' hy hnx hs'
          have fl := t.ltb
          have fn := t.lt _ hF2
          refine ⟨ns.length - (k + 1), by omega, k + 1, rfl, by omega, rfl, ⟨by rw [hp]; exact t', I.l.same ⟨Nat.le_of_eq hnx.symm, fun b all st hb hgb => ?_⟩ fun _ hk => hk, by rw [hs' _ (by omega) (by omega) (by omega)]; exact I.z, by rw [hnx]; exact I.next, fun j hj hjF => ?_⟩⟩
          · obtain ⟨y1, y2, y3⟩ := I.t.core.row_ne hgb
            rw [hs' b y1 y2 (get_ne hgb hrow0 (fun e => by simp at e))]; exact hgb
          · rw [hs' j (fun e => hjF (e ▸ t.own.2.1)) (fun e => hjF (e ▸ t.own.2.2.1)) (fun e => hjF (e ▸ hF2))]
            exact I.same j hj hjF
        · have hnn : n2 ≠ n0 := fun e' => hii (nb_inj t.nd (e' ▸ hn2) hn)
          have fb : (n2 == n0) = false := by simp [hnn]
          repeat' (first | simp only [evr, nextP_norm, evd, evq, beq_self_eq_true, cond_true, cond_false, reduceIte, Nat.reduceEqDiff, Nat.reduceAdd, Int.reduceBNe, Int.reduceBEq, Int.reduceLT, Int.reduceLE, Int.reduceEq, evh, evp, Nat.reduceLeDiff, Nat.reduceSub, Nat.reduceBEq, typs, a0, a1, a6, a8, a46, a47, a48, gx, al0, al2, fb, Bool.false_and, w1] | refine kCond2_by (fun hc => ?_) (fun hc => ?_) <;> try simp only [hc] | refine kPick_by (fun hc => ?_) (fun hc => ?_) <;> try simp only [hc] | refine kWant_by (fun hc => ?_) (fun hc => ?_) <;> try simp only [hc])
          have hp : T.part i (ns.take (k + 1)) = T.part i (ns.take k) := by
            rw [← List.take_append_getElem h3]
            exact Hi.part_no t.ok hdirs (by rw [show T.get d ns[k] = some e.id from hTg]; simpa using hii)
          exact ⟨ns.length - (k + 1), by omega, k + 1, rfl, by omega, rfl, ⟨by rw [hp]; exact I.t, I.l, I.z, I.next, I.same⟩⟩
      · have hkn : k = ns.length := by omega
        subst hkn
        have e3 : decide ((ns.length : Int) < ns.length) = false := by simp
        have hall : ∀ e ∈ T.L, e.id = i → e.name ∈ ns := fun e he hid => (hmem _).2 ⟨e, he, by unfold En.key; rw [t.ok.homes e he e0 he0 (hid.trans hi0.symm), hd0]⟩
        have It := I.t
        rw [List.take_length] at It
        have hU := Hi.part_all hall
        have hc : (T.br i).kind = 2 → T.count (T.br i).dir = 0 := fun hk2 => Nat.eq_zero_of_not_pos fun hp => hbusy ⟨hk2, hp⟩
        have hdel : T.delete d s = (T.gone i, T.br i, 0) := by
          have hb : ¬ ((T.br i).kind = 2 ∧ 0 < T.count (T.br i).dir) := hbusy
          unfold Hi.delete Hi.get; rw [hg]; simp only [if_neg hb]
        have fl := t.ltb
        have fin : ∀ {h3 h4 H5 : Hp} {slx : Value}, TreeB h3 F (T.gone i) bt bl bd bu nb → h.next ≤ h3.next → (∀ j, j < h.next → ¬ F j → h3.get j = h.get j) → Keep h3 h4 → TmTy h4 (fun j => h3.next ≤ j) slx (T.br i).acl → Same 65 h4 H5 →
            (∀ j, j < h.next → H5.get j = h4.get j) → DelP h F bt (T.delete d s) (.tuple #[.agg (bnC (T.br i) slx).toArray, .int .i64 0]) H5 := fun {h3 h4 H5 slx} y1 y2 y3 y4 y5 y6 y7 => by
          rw [hdel]
          refine ⟨⟨slx, rfl, y5.same y6 fun j hj => Nat.le_trans y2 hj⟩, F, ⟨bl, bd, bu, nb, y1.keep (Nat.le_trans y4.1 y6.1) fun j hj => ?_⟩, Nat.le_trans y2 (Nat.le_trans y4.1 y6.1), fun j h1 h2 => ?_, fun _ hj => .inl hj⟩
          · have h1 := t.lt j hj
            rw [y7 j h1, y4.2 j (by omega)]
          · rw [y7 j h1, y4.2 j (by omega), y3 j h1 h2]
        have hb2 : ∀ j, j < h.next → ¬ F j → h2.get j = h.get j := fun j h1 h2' => (I.same j (by omega) h2').trans (hk.2 j h1)
        have hn2x := I.next
        obtain ⟨n0, hn0', hF0, sl0, hlt0, hrow0, hsl0⟩ := It.node e0 he0
        rw [hi0] at hn0' hrow0
        have hn00 : n0 = n := by rw [hn] at hn0'; exact (Option.some.inj hn0').symm
        subst hn00
        have hrn := rowOf_rw hrow0
        unfold ndC at hrn
        have r0' := rowOf_rw It.core.row
        by_cases kk1 : (T.br i).kind = 1
        · have f1 : ((T.br i).kind == 1) = true := by simp [kk1]
          have kk2 : ¬ (T.br i).kind = 2 := by omega
          obtain ⟨h3, x1, m3, n3, s3⟩ := It.core.u.del (t := 90) (kt := 3) (et := 106) (P := kon.P) (by kernel_rfl) (keyI_ok Tryz.underlying3) (T.br i).uid
          unfold keyI at x1
          repeat' (first | simp only [evr, nextP_norm, evd, evq, beq_self_eq_true, cond_true, cond_false, reduceIte, Nat.reduceEqDiff, Nat.reduceAdd, Int.reduceBNe, Int.reduceBEq, Int.reduceLT, Int.reduceLE, Int.reduceEq, evh, evp, Nat.reduceLeDiff, Nat.reduceSub, Nat.reduceBEq, typs, a47, a48, e3, a0, a1, a6, a8, hrn, f1] | refine kCond2_by (fun hc => ?_) (fun hc => ?_) <;> try simp only [hc] | refine kPick_by (fun hc => ?_) (fun hc => ?_) <;> try simp only [hc] | refine kWant_by (fun hc => ?_) (fun hc => ?_) <;> try simp only [hc])
          refine Eq.mpr (Wp_drawOrd (KR.mk (by kernel_rfl))) ?_
          repeat' (first | simp only [evr, nextP_norm, evd, evq, beq_self_eq_true, cond_true, cond_false, reduceIte, Nat.reduceEqDiff, Nat.reduceAdd, Int.reduceBNe, Int.reduceBEq, Int.reduceLT, Int.reduceLE, Int.reduceEq, evh, evp, Nat.reduceLeDiff, Nat.reduceSub, Nat.reduceBEq, typs, a0, a6, a8, hrn, r0', P_delete, kDel, x1] | refine kCond2_by (fun hc => ?_) (fun hc => ?_) <;> try simp only [hc] | refine kPick_by (fun hc => ?_) (fun hc => ?_) <;> try simp only [hc] | refine kWant_by (fun hc => ?_) (fun hc => ?_) <;> try simp only [hc])
          obtain ⟨tB, nodes⟩ := It.gone hU hg hc (h' := h3) (by rw [if_neg kk2, if_pos kk1]; exact ⟨by rw [s3 bt It.core.bt_bu]; exact It.core.row, It.core.l.eq (s3 bl It.core.lu), It.core.d.eq (s3 bd It.core.du), m3, It.core.ld, It.core.lu, It.core.du⟩) n3 (fun j _ h1 => s3 j h1)
          obtain ⟨n1, y1, y2, hN⟩ := nodes e0 he0
          rw [hi0] at y1 hN
          have hn11 : n1 = n0 := by rw [hn] at y1; exact (Option.some.inj y1).symm
          subst hn11
          refine callP_meets (out_spec hN (t.acl i)) ?_
          rintro v h4 ⟨k4, slx, rfl, hs4⟩
          have z4 := (k4.2 h.next (by omega)).trans ((s3 h.next (by omega)).trans I.z)
          have hsc := hs4.isCell
          have hcv := hs4.cellsV
          have z4' := z4
          unfold zeroC at z4'
          unfold outV bnC
          have k4n := k4.1
          have e8 : (h.next = h4.next) = False := eq_false (by omega)
          have e9 : (h4.next = h.next) = False := eq_false (by omega)
          repeat' (first | simp only [evr, nextP_norm, evd, evq, beq_self_eq_true, cond_true, cond_false, reduceIte, Nat.reduceEqDiff, Nat.reduceAdd, Int.reduceBNe, Int.reduceBEq, Int.reduceLT, Int.reduceLE, Int.reduceEq, evh, evp, Nat.reduceLeDiff, Nat.reduceSub, Nat.reduceBEq, typs, a6, hsc, hcv, z4', e8, e9, if_false] | refine kCond2_by (fun hc => ?_) (fun hc => ?_) <;> try simp only [hc] | refine kPick_by (fun hc => ?_) (fun hc => ?_) <;> try simp only [hc] | refine kWant_by (fun hc => ?_) (fun hc => ?_) <;> try simp only [hc])
          refine fin tB (by omega) (fun j h1 h2' => (s3 j (fun e => h2' (e ▸ t.own.2.2.2))).trans (hb2 j h1 h2')) k4 hs4 (Same.trans (Same.trans (Same.keep (Keep.push _ _)) (Same.set (b := h4.next) ?_)) (Same.set (b := h.next) ?_)) fun j hj => ?_
          · rw [Hp.get_push_self]; exact (by decide : 40 ≠ 65)
          · rw [Hp.get_set_ne (by omega), Hp.get_push_lt (by omega), z4]; exact (by decide : 40 ≠ 65)
          · rw [Hp.get_set_ne (by omega), Hp.get_set_ne (by omega), Hp.get_push_lt (by omega)]
        · have f1 : ((T.br i).kind == 1) = false := by simp [kk1]
          by_cases kk2 : (T.br i).kind = 2
          · have f2 : ((T.br i).kind == 2) = true := by simp [kk2]
            obtain ⟨h3, x1, m3, n3, s3⟩ := It.core.d.del (t := 89) (kt := 3) (et := 3) (P := kon.P) (by kernel_rfl) (keyI_ok Tryz.underlying3) (T.br i).dir
            unfold keyI at x1
            repeat' (first | simp only [evr, nextP_norm, evd, evq, beq_self_eq_true, cond_true, cond_false, reduceIte, Nat.reduceEqDiff, Nat.reduceAdd, Int.reduceBNe, Int.reduceBEq, Int.reduceLT, Int.reduceLE, Int.reduceEq, evh, evp, Nat.reduceLeDiff, Nat.reduceSub, Nat.reduceBEq, typs, a47, a48, e3, a0, a1, a6, a8, hrn, f1, f2] | refine kCond2_by (fun hc => ?_) (fun hc => ?_) <;> try simp only [hc] | refine kPick_by (fun hc => ?_) (fun hc => ?_) <;> try simp only [hc] | refine kWant_by (fun hc => ?_) (fun hc => ?_) <;> try simp only [hc])
            refine Eq.mpr (Wp_drawOrd (KR.mk (by kernel_rfl))) ?_
            repeat' (first | simp only [evr, nextP_norm, evd, evq, beq_self_eq_true, cond_true, cond_false, reduceIte, Nat.reduceEqDiff, Nat.reduceAdd, Int.reduceBNe, Int.reduceBEq, Int.reduceLT, Int.reduceLE, Int.reduceEq, evh, evp, Nat.reduceLeDiff, Nat.reduceSub, Nat.reduceBEq, typs, a0, a6, a8, hrn, r0', P_delete, kDel, x1] | refine kCond2_by (fun hc => ?_) (fun hc => ?_) <;> try simp only [hc] | refine kPick_by (fun hc => ?_) (fun hc => ?_) <;> try simp only [hc] | refine kWant_by (fun hc => ?_) (fun hc => ?_) <;> try simp only [hc])
            obtain ⟨tB, nodes⟩ := It.gone hU hg hc (h' := h3) (by rw [if_pos kk2, if_neg kk1]; exact ⟨by rw [s3 bt It.core.bt_bd]; exact It.core.row, It.core.l.eq (s3 bl It.core.ld), m3, It.core.u.eq (s3 bu (Ne.symm It.core.du)), It.core.ld, It.core.lu, It.core.du⟩) n3 (fun j h1 _ => s3 j h1)
            obtain ⟨n1, y1, y2, hN⟩ := nodes e0 he0
            rw [hi0] at y1 hN
            have hn11 : n1 = n0 := by rw [hn] at y1; exact (Option.some.inj y1).symm
            subst hn11
            refine callP_meets (out_spec hN (t.acl i)) ?_
            rintro v h4 ⟨k4, slx, rfl, hs4⟩
            have z4 := (k4.2 h.next (by omega)).trans ((s3 h.next (by omega)).trans I.z)
            have hsc := hs4.isCell
            have hcv := hs4.cellsV
            have z4' := z4
            unfold zeroC at z4'
            unfold outV bnC
            have k4n := k4.1
            have e8 : (h.next = h4.next) = False := eq_false (by omega)
            have e9 : (h4.next = h.next) = False := eq_false (by omega)
            repeat' (first | simp only [evr, nextP_norm, evd, evq, beq_self_eq_true, cond_true, cond_false, reduceIte, Nat.reduceEqDiff, Nat.reduceAdd, Int.reduceBNe, Int.reduceBEq, Int.reduceLT, Int.reduceLE, Int.reduceEq, evh, evp, Nat.reduceLeDiff, Nat.reduceSub, Nat.reduceBEq, typs, a6, hsc, hcv, z4', e8, e9, if_false] | refine kCond2_by (fun hc => ?_) (fun hc => ?_) <;> try simp only [hc] | refine kPick_by (fun hc => ?_) (fun hc => ?_) <;> try simp only [hc] | refine kWant_by (fun hc => ?_) (fun hc => ?_) <;> try simp only [hc])
            refine fin tB (by omega) (fun j h1 h2' => (s3 j (fun e => h2' (e ▸ t.own.2.2.1))).trans (hb2 j h1 h2')) k4 hs4 (Same.trans (Same.trans (Same.keep (Keep.push _ _)) (Same.set (b := h4.next) ?_)) (Same.set (b := h.next) ?_)) fun j hj => ?_
            · rw [Hp.get_push_self]; exact (by decide : 40 ≠ 65)
            · rw [Hp.get_set_ne (by omega), Hp.get_push_lt (by omega), z4]; exact (by decide : 40 ≠ 65)
            · rw [Hp.get_set_ne (by omega), Hp.get_set_ne (by omega), Hp.get_push_lt (by omega)]
          · have f2 : ((T.br i).kind == 2) = false := by simp [kk2]
            obtain ⟨tB, nodes⟩ := It.gone hU hg hc (by rw [if_neg kk1, if_neg kk2]; exact It.core) rfl (fun _ _ _ => rfl)
            obtain ⟨n1, y1, y2, hN⟩ := nodes e0 he0
            rw [hi0] at y1 hN
            have hn11 : n1 = n0 := by rw [hn] at y1; exact (Option.some.inj y1).symm
            subst hn11
            repeat' (first | simp only [evr, nextP_norm, evd, evq, beq_self_eq_true, cond_true, cond_false, reduceIte, Nat.reduceEqDiff, Nat.reduceAdd, Int.reduceBNe, Int.reduceBEq, Int.reduceLT, Int.reduceLE, Int.reduceEq, evh, evp, Nat.reduceLeDiff, Nat.reduceSub, Nat.reduceBEq, typs, a47, a48, e3, a0, a1, a6, a8, hrn, f1, f2] | refine kCond2_by (fun hc => ?_) (fun hc => ?_) <;> try simp only [hc] | refine kPick_by (fun hc => ?_) (fun hc => ?_) <;> try simp only [hc] | refine kWant_by (fun hc => ?_) (fun hc => ?_) <;> try simp only [hc])
            refine callP_meets (out_spec hN (t.acl i)) ?_
            rintro v h4 ⟨k4, slx, rfl, hs4⟩
            have z4 := (k4.2 h.next (by omega)).trans I.z
            have hsc := hs4.isCell
            have hcv := hs4.cellsV
            have z4' := z4
            unfold zeroC at z4'
            unfold outV bnC
            have k4n := k4.1
            have e8 : (h.next = h4.next) = False := eq_false (by omega)
            have e9 : (h4.next = h.next) = False := eq_false (by omega)
            repeat' (first | simp only [evr, nextP_norm, evd, evq, beq_self_eq_true, cond_true, cond_false, reduceIte, Nat.reduceEqDiff, Nat.reduceAdd, Int.reduceBNe, Int.reduceBEq, Int.reduceLT, Int.reduceLE, Int.reduceEq, evh, evp, Nat.reduceLeDiff, Nat.reduceSub, Nat.reduceBEq, typs, a6, hsc, hcv, z4', e8, e9, if_false] | refine kCond2_by (fun hc => ?_) (fun hc => ?_) <;> try simp only [hc] | refine kPick_by (fun hc => ?_) (fun hc => ?_) <;> try simp only [hc] | refine kWant_by (fun hc => ?_) (fun hc => ?_) <;> try simp only [hc])
            refine fin tB (by omega) hb2 k4 hs4 (Same.trans (Same.trans (Same.keep (Keep.push _ _)) (Same.set (b := h4.next) ?_)) (Same.set (b := h.next) ?_)) fun j hj => ?_
            · rw [Hp.get_push_self]; exact (by decide : 40 ≠ 65)
            · rw [Hp.get_set_ne (by omega), Hp.get_push_lt (by omega), z4]; exact (by decide : 40 ≠ 65)
            · rw [Hp.get_set_ne (by omega), Hp.get_set_ne (by omega), Hp.get_push_lt (by omega)]
end
end Go.Proofs.YtncmgiddcefpcaaGreatDoor
