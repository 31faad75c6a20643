/- Texts joined: what the claim needs of them. No condition. -/
import Derived.Test.YtncmgiddcefpcaaGreatDoorBin7
import Derived.Test.YtncmgiddcefpcaaGreatDoorBin5
namespace Go.Proofs.YtncmgiddcefpcaaGreatDoor
open Go Go.Ev Go.Con
set_option linter.unusedSimpArgs false
set_option linter.unusedVariables false
set_option maxRecDepth 100000
section
variable {h : Hp} {F : Nat → Prop} {T U : Hi} {bt bl bd bu : Nat} {nb : List Nat}
theorem sortedN_mem {T : Hi} {d : Int} {s : ByteArray} : s ∈ sortedN T d ↔ ∃ e ∈ T.L, e.key = (d, s) := by
  unfold sortedN
  rw [List.mem_map]
  constructor
  · rintro ⟨l, hl, rfl⟩
    rw [(sortB_perm _).mem_iff, List.mem_map] at hl
    obtain ⟨s, hs, rfl⟩ := hl
    unfold Hi.namesOf at hs
    obtain ⟨e, he, rfl⟩ := List.mem_map.1 hs
    obtain ⟨he, hd⟩ := List.mem_filter.1 he
    refine ⟨e, he, ?_⟩
    rw [ofL_of]
    unfold En.key
    rw [of_decide_eq_true hd]
  · rintro ⟨e, he, hk⟩
    have hd : e.dir = d := congrArg Prod.fst hk
    have hn : e.name = s := congrArg Prod.snd hk
    refine ⟨s.data.toList, ?_, ofL_of s⟩
    rw [(sortB_perm _).mem_iff, List.mem_map]
    refine ⟨s, ?_, rfl⟩
    unfold Hi.namesOf
    exact List.mem_map.2 ⟨e, List.mem_filter.2 ⟨he, decide_eq_true hd⟩, hn⟩
theorem sortedN_nodup (ok : T.Ok) (d : Int) : (sortedN T d).Nodup := by
  unfold sortedN
  have h1 : (T.namesOf d).Nodup := by
    unfold Hi.namesOf
    have h2 : ((T.L.filter fun e => decide (e.dir = d)).map En.key).Nodup := (List.filter_sublist.map _).nodup ok.keys
    have h3 : (T.L.filter fun e => decide (e.dir = d)).map En.key = ((T.L.filter fun e => decide (e.dir = d)).map (·.name)).map fun s => (d, s) := by
      rw [List.map_map]
      refine List.map_congr_left fun e he => ?_
      have := of_decide_eq_true (List.mem_filter.1 he).2
      show (e.dir, e.name) = (d, e.name)
      rw [this]
    rw [h3] at h2
    exact List.Pairwise.of_map (fun s => (d, s)) (fun a b hab e => hab (by rw [e])) h2
  have h4 : ((T.namesOf d).map fun s => s.data.toList).Nodup := List.Pairwise.map (S := fun a b => a ≠ b) _ (fun a b hab e => hab (ba_ext e)) h1
  have h5 := ((sortB_perm ((T.namesOf d).map fun s => s.data.toList)).symm.nodup h4)
  exact List.Pairwise.map (S := fun a b => a ≠ b) _ (fun a b hab e => hab (by have := congrArg (fun x : ByteArray => x.data.toList) e; simpa [ofL] using this)) h5
def zeroC : List Value := [.int .i64 0, .int .i64 0, .int .i64 0, .string ByteArray.empty, .bool false, .slice none 0 0, .int .i64 0, .int .i64 0, .int .i64 0, .int .i64 0]
def DelP (h : Hp) (F : Nat → Prop) (bt : Nat) (r : Hi × Bn × Int) (v : Value) (h' : Hp) : Prop :=
  (∃ sl', v = .tuple #[.agg (bnC r.2.1 sl').toArray, .int .i64 r.2.2] ∧ TmTy h' (fun k => h.next ≤ k) sl' r.2.1.acl) ∧ ∃ F', TreeAt h' F' r.1 bt ∧ Upd h F h' F'
structure DelI (H : Hp) (F : Nat → Prop) (T : Hi) (i bt bl bd bu : Nat) (nb : List Nat) (z : Nat) (l : Value) (ns : List ByteArray) (h' : Hp) (k : Nat) : Prop where
  t : TreeP h' F T (T.part i (ns.take k)) bt bl bd bu nb
  l : SlTy h' (fun j => H.next ≤ j) 9 1 l (strs ns)
  z : h'.get z = some (.row zeroC 40 (.rw 0 []))
  next : H.next ≤ h'.next
  same : ∀ j, j < H.next → ¬ F j → h'.get j = H.get j
theorem TreeP.gone {i : Nat} {ns : List ByteArray} (t : TreeP h F T (T.part i ns) bt bl bd bu nb) (hU : (T.part i ns).L = T.L.filter fun e => !decide (e.id = i)) {d : Int} {s : ByteArray} (hg : T.get d s = some i)
    (hc : (T.br i).kind = 2 → T.count (T.br i).dir = 0) {h' : Hp}
    (c : CoreAt h' bt bl bd bu (fun k => nodeF nb ((T.part i ns).getF k)) (if (T.br i).kind = 2 then upd (T.part i ns).dirF (T.br i).dir none else (T.part i ns).dirF)
      (if (T.br i).kind = 1 then upd (fun u => nodeF nb (T.seg u)) (T.br i).uid none else fun u => nodeF nb (T.seg u)) ((T.D.length : Int) - 1))
    (hn : h'.next = h.next) (hs : ∀ k, k ≠ bd → k ≠ bu → h'.get k = h.get k) : TreeB h' F (T.gone i) bt bl bd bu nb ∧ ∀ e ∈ T.L, ∃ n, nb[e.id]? = some n ∧ F n ∧ NodeAt h' F n ⟨T.br e.id, e.dir, (T.part i ns).many e.id⟩ := by
  obtain ⟨ok', eG, eS, eD⟩ := t.ok.gone hg hc
  have hP : T.part i ns = ⟨T.B, T.L.filter fun e => !decide (e.id = i), T.D⟩ := by
    show (Hi.mk T.B (T.part i ns).L T.D) = _
    rw [hU]
  have sm : Same 65 h h' := ⟨Nat.le_of_eq hn.symm, fun b all st hb hgb => by
    obtain ⟨e1, e2, e3⟩ := t.core.row_ne hgb
    rw [hs b e2 e3]; exact hgb⟩
  have node : ∀ e ∈ T.L, ∃ n, nb[e.id]? = some n ∧ F n ∧ NodeAt h' F n ⟨T.br e.id, e.dir, (T.part i ns).many e.id⟩ := fun e he => by
    obtain ⟨m, h1, h2, sl, h3, h4, h5⟩ := t.node e he
    have hr := t.core.row_ne h4
    exact ⟨m, h1, h2, sl, by omega, by rw [hs m hr.2.1 hr.2.2]; exact h4, h5.same sm fun _ hk => hk⟩
  have hm : ∀ j, (T.gone i).many j = (T.part i ns).many j := fun j => by rw [hP]; rfl
  have hlen : (T.gone i).D.length = T.D.length := by unfold Hi.gone; dsimp only; split <;> simp
  refine ⟨⟨t.len, ?_, fun e he => ?_, t.nd, t.nF, t.own, fun k hk => by rw [hn]; exact t.lt k hk, ok', t.acl⟩, node⟩
  · have eS' : (fun u => nodeF nb ((T.gone i).seg u)) = if (T.br i).kind = 1 then upd (fun u => nodeF nb (T.seg u)) (T.br i).uid none else fun u => nodeF nb (T.seg u) := by
      rw [eS]
      split
      · funext u
        by_cases hu : u = (T.br i).uid
        · subst hu; rw [upd_self, upd_self]; rfl
        · rw [upd_ne _ _ hu, upd_ne _ _ hu]
      · rfl
    rw [eG, eD, eS', hlen, ← hP]
    exact c
  · rw [hm]
    exact node e (List.mem_filter.1 he).1
theorem tDelete_spec (t : TreeAt h F T bt) (hL : T.L.length ≤ 1000000000) (d : Int) (s : ByteArray) :
    Meets kon 36 [ptrV bt, .int .i64 d, .string s] h (DelP h F bt (T.delete d s)) := by
  obtain ⟨bl, bd, bu, nb, t⟩ := t
  refine Meets.mk rfl (by kernel_rfl) Tryz.func36 rfl (congrArg Array.toList Tryz.results36) ?_
  repeat' (first | simp only [evr, nextP_norm, evd, evq, beq_self_eq_true, cond_true, cond_false, reduceIte, Nat.reduceEqDiff, Nat.reduceAdd, Int.reduceBNe, Int.reduceBEq, Int.reduceLT, Int.reduceLE, Int.reduceEq, evh, evp, Nat.reduceLeDiff, Nat.reduceSub, Nat.reduceBEq, typs] | refine kCond2_by (fun hc => ?_) (fun hc => ?_) <;> try simp only [hc] | refine kPick_by (fun hc => ?_) (fun hc => ?_) <;> try simp only [hc] | refine kWant_by (fun hc => ?_) (fun hc => ?_) <;> try simp only [hc])
  generalize hh : Hp.push h _ = H
  have g6 : H.get h.next = some (.row zeroC 40 (.rw 0 [])) := by rw [← hh]; exact Hp.get_push_self _ _
  have hk : Keep h H := by rw [← hh]; exact Keep.push _ _
  have hx : H.next = h.next + 1 := by rw [← hh]; rfl
  clear hh
  have tH : TreeB H F T bt bl bd bu nb := t.keep hk.1 fun j hj => hk.2 j (t.lt j hj)
  have g1 := (get_spec tH.core d s).call
  have g3 := (none_spec bt H).call
  have q6 := rowOf_rw g6
  unfold zeroC at g6 q6
  cases hg : T.getF (d, s) with
  | none =>
    rw [hg] at g1
    unfold nodeF Option.bind optP at g1
    repeat' (first | simp only [evr, nextP_norm, evd, evq, beq_self_eq_true, cond_true, cond_false, reduceIte, Nat.reduceEqDiff, Nat.reduceAdd, Int.reduceBNe, Int.reduceBEq, Int.reduceLT, Int.reduceLE, Int.reduceEq, evh, evp, Nat.reduceLeDiff, Nat.reduceSub, Nat.reduceBEq, typs, g1, g3, g6, q6] | refine kCond2_by (fun hc => ?_) (fun hc => ?_) <;> try simp only [hc] | refine kPick_by (fun hc => ?_) (fun hc => ?_) <;> try simp only [hc] | refine kWant_by (fun hc => ?_) (fun hc => ?_) <;> try simp only [hc])
    have e : T.delete d s = (T, noBn, 4) := by simp [Hi.delete, Hi.get, hg]
    rw [e]
    exact ⟨⟨.slice none 0 0, rfl, .inl ⟨rfl, rfl⟩⟩, F, ⟨bl, bd, bu, nb, t.keep hk.1 fun j hj => by rw [Hp.get_set_ne (by have := t.lt j hj; omega)]; exact hk.2 j (t.lt j hj)⟩, Upd.keep (hk.set (Nat.le_refl _))⟩
  | some i =>
    obtain ⟨e0, he0, hk0, hi0⟩ := Hi.get_some hg
    obtain ⟨n, hn, hFn, sl, hlt, hrow, hsl⟩ := tH.node e0 he0
    have hd0 : e0.dir = d := congrArg Prod.fst hk0
    have hn0 : e0.name = s := congrArg Prod.snd hk0
    rw [hi0] at hn hrow hsl
    have e1 : nodeF nb (some i) = some n := hn
    have hr := rowOf_rw hrow
    have r0 := rowOf_rw tH.core.row
    unfold ndC at hr
    rw [hg, e1] at g1
    unfold optP ptrV at g1
    unfold ptrV
    repeat' (first | simp only [evr, nextP_norm, evd, evq, beq_self_eq_true, cond_true, cond_false, reduceIte, Nat.reduceEqDiff, Nat.reduceAdd, Int.reduceBNe, Int.reduceBEq, Int.reduceLT, Int.reduceLE, Int.reduceEq, evh, evp, Nat.reduceLeDiff, Nat.reduceSub, Nat.reduceBEq, typs, g1] | refine kCond2_by (fun hc => ?_) (fun hc => ?_) <;> try simp only [hc] | refine kPick_by (fun hc => ?_) (fun hc => ?_) <;> try simp only [hc] | refine kWant_by (fun hc => ?_) (fun hc => ?_) <;> try simp only [hc])
    by_cases hbusy : (T.br i).kind = 2 ∧ 0 < T.count (T.br i).dir
    · have f1 : ((T.br i).kind == 2) = true := by simp [hbusy.1]
      have his : T.is (T.br i).dir = true := by
        obtain ⟨e, he, h1⟩ := Hi.count_pos.1 hbusy.2
        rw [← h1]; exact t.ok.dirs e he
      have hl := tH.core.lookD (T.br i).dir false
      have hD : T.dirF (T.br i).dir = some (T.count (T.br i).dir : Int) := by unfold Hi.dirF; rw [if_pos his]
      rw [hD] at hl
      simp only [cond_false] at hl
      have f2 : decide ((0 : Int) < (T.count (T.br i).dir : Nat)) = true := by simp; omega
      refine Eq.mpr (Wp_drawOrd (KR.mk (by kernel_rfl))) ?_
      repeat' (first | simp only [evr, nextP_norm, evd, evq, beq_self_eq_true, cond_true, cond_false, reduceIte, Nat.reduceEqDiff, Nat.reduceAdd, Int.reduceBNe, Int.reduceBEq, Int.reduceLT, Int.reduceLE, Int.reduceEq, evh, evp, Nat.reduceLeDiff, Nat.reduceSub, Nat.reduceBEq, typs, g1, hr, r0, f1, hl, f2, g6, q6] | refine kCond2_by (fun hc => ?_) (fun hc => ?_) <;> try simp only [hc] | refine kPick_by (fun hc => ?_) (fun hc => ?_) <;> try simp only [hc] | refine kWant_by (fun hc => ?_) (fun hc => ?_) <;> try simp only [hc])
      have e : T.delete d s = (T, noBn, 16) := by simp [Hi.delete, Hi.get, hg, hbusy]
      rw [e]
      exact ⟨⟨.slice none 0 0, rfl, .inl ⟨rfl, rfl⟩⟩, F, ⟨bl, bd, bu, nb, t.keep hk.1 fun j hj => by rw [Hp.get_set_ne (by have := t.lt j hj; omega)]; exact hk.2 j (t.lt j hj)⟩, Upd.keep (hk.set (Nat.le_refl _))⟩
    · have hl := tH.core.lookD (T.br i).dir false
      have hD : (T.br i).kind = 2 → (T.dirF (T.br i).dir).getD 0 = 0 := fun hk2 => by
        have h0 : T.count (T.br i).dir = 0 := Nat.eq_zero_of_not_pos fun hp => hbusy ⟨hk2, hp⟩
        unfold Hi.dirF; split
        · rw [h0]; rfl
        · rfl
      have hl2 : (T.br i).kind = 2 → evLookup kon.P 89 (.map (some bd)) (.int .i64 (T.br i).dir) false H = some (.int .i64 0) := fun hk2 => by
        have := hD hk2
        rw [hl]
        cases hq : T.dirF (T.br i).dir with
        | none => rfl
        | some x => rw [hq] at this; simp at this; subst this; rfl
      refine Wp.mono (Q := fun e fr' h' => e = Ex.norm ∧ h' = H ∧ fr'.get 0 = some (.pointer (some ⟨bt, 0, none⟩)) ∧ fr'.get 1 = some (.int .i64 d) ∧ fr'.get 6 = some (.pointer (some ⟨h.next, 0, none⟩)) ∧ fr'.get 8 = some (.pointer (some ⟨n, 0, none⟩)) ∧ fr'.get 23 = some (.bool false)) ?_ ?_
      · by_cases hk2 : (T.br i).kind = 2
        · have f1 : ((T.br i).kind == 2) = true := by simp [hk2]
          have f2 := hl2 hk2
          refine Eq.mpr (Wp_drawOrd (KR.mk (by kernel_rfl))) ?_
          repeat' (first | simp only [evr, nextP_norm, evd, evq, beq_self_eq_true, cond_true, cond_false, reduceIte, Nat.reduceEqDiff, Nat.reduceAdd, Int.reduceBNe, Int.reduceBEq, Int.reduceLT, Int.reduceLE, Int.reduceEq, evh, evp, Nat.reduceLeDiff, Nat.reduceSub, Nat.reduceBEq, typs, g1, hr, r0, f1, f2, Int.lt_irrefl] | refine kCond2_by (fun hc => ?_) (fun hc => ?_) <;> try simp only [hc] | refine kPick_by (fun hc => ?_) (fun hc => ?_) <;> try simp only [hc] | refine kWant_by (fun hc => ?_) (fun hc => ?_) <;> try simp only [hc])
        · have f1 : ((T.br i).kind == 2) = false := by simp [hk2]
          refine Eq.mpr (Wp_drawOrd (KR.mk (by kernel_rfl))) ?_
          repeat' (first | simp only [evr, nextP_norm, evd, evq, beq_self_eq_true, cond_true, cond_false, reduceIte, Nat.reduceEqDiff, Nat.reduceAdd, Int.reduceBNe, Int.reduceBEq, Int.reduceLT, Int.reduceLE, Int.reduceEq, evh, evp, Nat.reduceLeDiff, Nat.reduceSub, Nat.reduceBEq, typs, g1, hr, r0, f1] | refine kCond2_by (fun hc => ?_) (fun hc => ?_) <;> try simp only [hc] | refine kPick_by (fun hc => ?_) (fun hc => ?_) <;> try simp only [hc] | refine kWant_by (fun hc => ?_) (fun hc => ?_) <;> try simp only [hc])
      rintro ex fr Hx ⟨hE, hH, a0, a1, a6, a8, a23⟩
      rw [hE, hH]
      clear hE hH ex Hx
      repeat' (first | simp only [evr, nextP_norm, evd, evq, beq_self_eq_true, cond_true, cond_false, reduceIte, Nat.reduceEqDiff, Nat.reduceAdd, Int.reduceBNe, Int.reduceBEq, Int.reduceLT, Int.reduceLE, Int.reduceEq, evh, evp, Nat.reduceLeDiff, Nat.reduceSub, Nat.reduceBEq, typs, a23, a0, a1] | refine kCond2_by (fun hc => ?_) (fun hc => ?_) <;> try simp only [hc] | refine kPick_by (fun hc => ?_) (fun hc => ?_) <;> try simp only [hc] | refine kWant_by (fun hc => ?_) (fun hc => ?_) <;> try simp only [hc])
      refine callP_meets (tNames_spec ⟨bl, bd, bu, nb, tH⟩ hL d) ?_
      rintro l h1 ⟨k1, hls⟩
      have hll := StrSl.len hls.slAt
      have hlen : (sortedN T d).length ≤ 1000000000 := by
        unfold sortedN Hi.namesOf
        rw [List.length_map, (sortB_perm _).length_eq, List.length_map, List.length_map]
        exact Nat.le_trans (List.length_filter_le _ _) hL
      have hmem := fun x => sortedN_mem (T := T) (d := d) (s := x)
      have hnd := sortedN_nodup t.ok d
      generalize hns : sortedN T d = ns at *
      repeat' (first | simp only [evr, nextP_norm, evd, evq, beq_self_eq_true, cond_true, cond_false, reduceIte, Nat.reduceEqDiff, Nat.reduceAdd, Int.reduceBNe, Int.reduceBEq, Int.reduceLT, Int.reduceLE, Int.reduceEq, evh, evp, Nat.reduceLeDiff, Nat.reduceSub, Nat.reduceBEq, typs, hll, a0, a1, a6, a8] | refine kCond2_by (fun hc => ?_) (fun hc => ?_) <;> try simp only [hc] | refine kPick_by (fun hc => ?_) (fun hc => ?_) <;> try simp only [hc] | refine kWant_by (fun hc => ?_) (fun hc => ?_) <;> try simp only [hc])
      have I0 : DelI H F T i bt bl bd bu nb h.next l ns h1 0 := by
        refine ⟨?_, hls, (k1.2 _ (by omega)).trans g6, k1.1, fun j hj _ => k1.2 j hj⟩
        rw [List.take_zero, Hi.part_nil]
        exact (tH.keep k1.1 fun j hj => k1.2 j (tH.lt j hj)).part
      refine Wp_loop (fun m fr h' => ∃ k : Nat, m = ns.length - k ∧ k ≤ ns.length ∧ fr.get 0 = some (.pointer (some ⟨bt, 0, none⟩)) ∧ fr.get 1 = some (.int .i64 d) ∧ fr.get 6 = some (.pointer (some ⟨h.next, 0, none⟩)) ∧ fr.get 8 = some (.pointer (some ⟨n, 0, none⟩)) ∧
        fr.get 46 = some l ∧ fr.get 47 = some (.int .i64 ns.length) ∧ fr.get 48 = some (.int .i64 k) ∧ DelI H F T i bt bl bd bu nb h.next l ns h' k) ns.length ⟨0, rfl, Nat.zero_le _, ?_, ?_, ?_, ?_, ?_, ?_, ?_, I0⟩ ?_
      · repeat' (first | simp only [evr, nextP_norm, evd, evq, beq_self_eq_true, cond_true, cond_false, reduceIte, Nat.reduceEqDiff, Nat.reduceAdd, Int.reduceBNe, Int.reduceBEq, Int.reduceLT, Int.reduceLE, Int.reduceEq, evh, evp, Nat.reduceLeDiff, Nat.reduceSub, Nat.reduceBEq, typs, a0] | refine kCond2_by (fun hc => ?_) (fun hc => ?_) <;> try simp only [hc] | refine kPick_by (fun hc => ?_) (fun hc => ?_) <;> try simp only [hc] | refine kWant_by (fun hc => ?_) (fun hc => ?_) <;> try simp only [hc])
      · repeat' (first | simp only [evr, nextP_norm, evd, evq, beq_self_eq_true, cond_true, cond_false, reduceIte, Nat.reduceEqDiff, Nat.reduceAdd, Int.reduceBNe, Int.reduceBEq, Int.reduceLT, Int.reduceLE, Int.reduceEq, evh, evp, Nat.reduceLeDiff, Nat.reduceSub, Nat.reduceBEq, typs, a1] | refine kCond2_by (fun hc => ?_) (fun hc => ?_) <;> try simp only [hc] | refine kPick_by (fun hc => ?_) (fun hc => ?_) <;> try simp only [hc] | refine kWant_by (fun hc => ?_) (fun hc => ?_) <;> try simp only [hc])
      · repeat' (first | simp only [evr, nextP_norm, evd, evq, beq_self_eq_true, cond_true, cond_false, reduceIte, Nat.reduceEqDiff, Nat.reduceAdd, Int.reduceBNe, Int.reduceBEq, Int.reduceLT, Int.reduceLE, Int.reduceEq, evh, evp, Nat.reduceLeDiff, Nat.reduceSub, Nat.reduceBEq, typs, a6] | refine kCond2_by (fun hc => ?_) (fun hc => ?_) <;> try simp only [hc] | refine kPick_by (fun hc => ?_) (fun hc => ?_) <;> try simp only [hc] | refine kWant_by (fun hc => ?_) (fun hc => ?_) <;> try simp only [hc])
      · repeat' (first | simp only [evr, nextP_norm, evd, evq, beq_self_eq_true, cond_true, cond_false, reduceIte, Nat.reduceEqDiff, Nat.reduceAdd, Int.reduceBNe, Int.reduceBEq, Int.reduceLT, Int.reduceLE, Int.reduceEq, evh, evp, Nat.reduceLeDiff, Nat.reduceSub, Nat.reduceBEq, typs, a8] | refine kCond2_by (fun hc => ?_) (fun hc => ?_) <;> try simp only [hc] | refine kPick_by (fun hc => ?_) (fun hc => ?_) <;> try simp only [hc] | refine kWant_by (fun hc => ?_) (fun hc => ?_) <;> try simp only [hc])
      · repeat' (first | simp only [evr, nextP_norm, evd, evq, beq_self_eq_true, cond_true, cond_false, reduceIte, Nat.reduceEqDiff, Nat.reduceAdd, Int.reduceBNe, Int.reduceBEq, Int.reduceLT, Int.reduceLE, Int.reduceEq, evh, evp, Nat.reduceLeDiff, Nat.reduceSub, Nat.reduceBEq, typs] | refine kCond2_by (fun hc => ?_) (fun hc => ?_) <;> try simp only [hc] | refine kPick_by (fun hc => ?_) (fun hc => ?_) <;> try simp only [hc] | refine kWant_by (fun hc => ?_) (fun hc => ?_) <;> try simp only [hc])
      · repeat' (first | simp only [evr, nextP_norm, evd, evq, beq_self_eq_true, cond_true, cond_false, reduceIte, Nat.reduceEqDiff, Nat.reduceAdd, Int.reduceBNe, Int.reduceBEq, Int.reduceLT, Int.reduceLE, Int.reduceEq, evh, evp, Nat.reduceLeDiff, Nat.reduceSub, Nat.reduceBEq, typs] | refine kCond2_by (fun hc => ?_) (fun hc => ?_) <;> try simp only [hc] | refine kPick_by (fun hc => ?_) (fun hc => ?_) <;> try simp only [hc] | refine kWant_by (fun hc => ?_) (fun hc => ?_) <;> try simp only [hc])
      · repeat' (first | simp only [evr, nextP_norm, evd, evq, beq_self_eq_true, cond_true, cond_false, reduceIte, Nat.reduceEqDiff, Nat.reduceAdd, Int.reduceBNe, Int.reduceBEq, Int.reduceLT, Int.reduceLE, Int.reduceEq, evh, evp, Nat.reduceLeDiff, Nat.reduceSub, Nat.reduceBEq, typs] | refine kCond2_by (fun hc => ?_) (fun hc => ?_) <;> try simp only [hc] | refine kPick_by (fun hc => ?_) (fun hc => ?_) <;> try simp only [hc] | refine kWant_by (fun hc => ?_) (fun hc => ?_) <;> try simp only [hc])
        rfl
      clear a0 a1 a6 a8 a23 I0
      rintro m fr2 h2 ⟨k, rfl, hk2, a0, a1, a6, a8, a46, a47, a48, I⟩
      by_cases h3 : k < ns.length
      · have e3 : decide ((k : Int) < ns.length) = true := by simp; omega
        obtain ⟨p, x1, x2⟩ := StrSl.at I.l.slAt (List.getElem?_eq_getElem h3)
        repeat' (first | simp only [evr, nextP_norm, evd, evq, beq_self_eq_true, cond_true, cond_false, reduceIte, Nat.reduceEqDiff, Nat.reduceAdd, Int.reduceBNe, Int.reduceBEq, Int.reduceLT, Int.reduceLE, Int.reduceEq, evh, evp, Nat.reduceLeDiff, Nat.reduceSub, Nat.reduceBEq, typs, a0, a1, a6, a8, a46, a47, a48, e3, x1, x2] | refine kCond2_by (fun hc => ?_) (fun hc => ?_) <;> try simp only [hc] | refine kPick_by (fun hc => ?_) (fun hc => ?_) <;> try simp only [hc] | refine kWant_by (fun hc => ?_) (fun hc => ?_) <;> try simp only [hc])
        have hxm : ns[k] ∈ ns := List.getElem_mem h3
        have hnot : ns[k] ∉ ns.take k := fun hc => by
          obtain ⟨j, hj, he⟩ := List.mem_take_iff_getElem.1 hc
          have := (List.getElem?_inj (i := j) (j := k) (by omega) hnd).1 (by rw [List.getElem?_eq_getElem (by omega), List.getElem?_eq_getElem h3, he])
          omega
        obtain ⟨e, he, hke⟩ := (hmem _).1 hxm
        have hTg : T.getF (d, ns[k]) = some e.id := by rw [← hke]; exact t.ok.get_of he
        have hUg : (T.part i (ns.take k)).getF (d, ns[k]) = some e.id := by
          have := Hi.part_get t.ok (i := i) (d := d) hnot
          exact this.trans hTg
        obtain ⟨n2, hn2, hF2, sl2, hlt2, hrow2, hsl2⟩ := I.t.node e he
        have gx := (get_spec I.t.core d ns[k]).call
        have e2 : nodeF nb (some e.id) = some n2 := hn2
        rw [hUg, e2] at gx
        unfold optP ptrV at gx
        obtain ⟨n0, hn0', hF0, sl0, hlt0, hrow0, hsl0⟩ := I.t.node e0 he0
        rw [hi0] at hn0' hrow0
        have hn00 : n0 = n := by rw [hn] at hn0'; exact (Option.some.inj hn0').symm
        subst hn00
        have al0 : aliveOb (h2.get n0) = true := by rw [hrow0]; rfl
        have al2 : aliveOb (h2.get n2) = true := by rw [hrow2]; rfl
        have hdirs : ∀ e ∈ T.L, e.id = i → e.dir = d := fun a ha hai => by rw [t.ok.homes a ha e0 he0 (hai.trans hi0.symm)]; exact hd0
        have w1 := wrap64 (x := (k : Int) + 1) (by omega) (by omega)
        by_cases hii : e.id = i
        · have hnn : n2 = n0 := by rw [hii, hn] at hn2; exact (Option.some.inj hn2).symm
          subst hnn
          repeat' (first | simp only [evr, nextP_norm, evd, evq, beq_self_eq_true, cond_true, cond_false, reduceIte, Nat.reduceEqDiff, Nat.reduceAdd, Int.reduceBNe, Int.reduceBEq, Int.reduceLT, Int.reduceLE, Int.reduceEq, evh, evp, Nat.reduceLeDiff, Nat.reduceSub, Nat.reduceBEq, typs, a0, a1, a6, a8, a46, a47, a48, gx, al0, Bool.and_self] | refine kCond2_by (fun hc => ?_) (fun hc => ?_) <;> try simp only [hc] | refine kPick_by (fun hc => ?_) (fun hc => ?_) <;> try simp only [hc] | refine kWant_by (fun hc => ?_) (fun hc => ?_) <;> try simp only [hc])
          have hUL : (T.part i (ns.take k)).L.length ≤ T.L.length := List.length_filter_le _ _
          have hcnt : 0 ≤ ((T.part i (ns.take k)).dirF d).getD 0 ∧ ((T.part i (ns.take k)).dirF d).getD 0 ≤ 1000000000000 := by
            have := Hi.count_le (T.part i (ns.take k)) d
            unfold Hi.dirF
            split
            · simp; omega
            · simp
          have hmn := Hi.many_le (T.part i (ns.take k)) i
          have hf : (fun x => nodeF nb ((T.part i (ns.take k)).getF x)) (d, ns[k]) = some n2 := by show nodeF nb _ = _; rw [hUg]; exact e2
          refine callP_meets (take_spec I.t.core hrow0 d ns[k] hf (by omega) (by omega) (show -4000000000000000000 ≤ (((T.part i (ns.take k)).many i : Nat) : Int) by omega) (show (((T.part i (ns.take k)).many i : Nat) : Int) ≤ 4000000000000000000 by omega)) ?_
          rintro _ h3' ⟨rfl, c', hy, hnx, hs'⟩
          repeat' (first | simp only [evr, nextP_norm, evd, evq, beq_self_eq_true, cond_true, cond_false, reduceIte, Nat.reduceEqDiff, Nat.reduceAdd, Int.reduceBNe, Int.reduceBEq, Int.reduceLT, Int.reduceLE, Int.reduceEq, evh, evp, Nat.reduceLeDiff, Nat.reduceSub, Nat.reduceBEq, typs, a0, a1, a6, a8, a46, a47, a48, w1] | refine kCond2_by (fun hc => ?_) (fun hc => ?_) <;> try simp only [hc] | refine kPick_by (fun hc => ?_) (fun hc => ?_) <;> try simp only [hc] | refine kWant_by (fun hc => ?_) (fun hc => ?_) <;> try simp only [hc])
          obtain ⟨eU, heU, hkU, hiU⟩ := Hi.get_some hUg
          have hd1 : eU.dir = d := congrArg Prod.fst hkU
          have hn1 : eU.name = ns[k] := congrArg Prod.snd hkU
          have hp : T.part i (ns.take (k + 1)) = (T.part i (ns.take k)).taken eU.dir eU.name := by
            rw [hd1, hn1, ← Hi.part_yes t.ok hdirs (hTg.trans (congrArg some hii)), ← List.take_append_getElem h3]
          rw [← hd1, ← hn1] at c'
          have t' := I.t.take heU (by rw [hiU]; exact hn2) hrow0 c' hy hnx hs'
          have fl := t.ltb
          have fn := t.lt _ hF2
          refine ⟨ns.length - (k + 1), by omega, k + 1, rfl, by omega, rfl, ⟨by rw [hp]; exact t', I.l.same ⟨Nat.le_of_eq hnx.symm, fun b all st hb hgb => ?_⟩ fun _ hk => hk, by rw [hs' _ (by omega) (by omega) (by omega)]; exact I.z, by rw [hnx]; exact I.next, fun j hj hjF => ?_⟩⟩
          · obtain ⟨y1, y2, y3⟩ := I.t.core.row_ne hgb
            rw [hs' b y1 y2 (get_ne hgb hrow0 (fun e => by simp at e))]; exact hgb
          · rw [hs' j (fun e => hjF (e ▸ t.own.2.1)) (fun e => hjF (e ▸ t.own.2.2.1)) (fun e => hjF (e ▸ hF2))]
            exact I.same j hj hjF
        · have hnn : n2 ≠ n0 := fun e' => hii (nb_inj t.nd (e' ▸ hn2) hn)
          have fb : (n2 == n0) = false := by simp [hnn]
          repeat' (first | simp only [evr, nextP_norm, evd, evq, beq_self_eq_true, cond_true, cond_false, reduceIte, Nat.reduceEqDiff, Nat.reduceAdd, Int.reduceBNe, Int.reduceBEq, Int.reduceLT, Int.reduceLE, Int.reduceEq, evh, evp, Nat.reduceLeDiff, Nat.reduceSub, Nat.reduceBEq, typs, a0, a1, a6, a8, a46, a47, a48, gx, al0, al2, fb, Bool.false_and, w1] | refine kCond2_by (fun hc => ?_) (fun hc => ?_) <;> try simp only [hc] | refine kPick_by (fun hc => ?_) (fun hc => ?_) <;> try simp only [hc] | refine kWant_by (fun hc => ?_) (fun hc => ?_) <;> try simp only [hc])
          have hp : T.part i (ns.take (k + 1)) = T.part i (ns.take k) := by
            rw [← List.take_append_getElem h3]
            exact Hi.part_no t.ok hdirs (by rw [show T.get d ns[k] = some e.id from hTg]; simpa using hii)
          exact ⟨ns.length - (k + 1), by omega, k + 1, rfl, by omega, rfl, ⟨by rw [hp]; exact I.t, I.l, I.z, I.next, I.same⟩⟩
      · have hkn : k = ns.length := by omega
        subst hkn
        have e3 : decide ((ns.length : Int) < ns.length) = false := by simp
        have hall : ∀ e ∈ T.L, e.id = i → e.name ∈ ns := fun e he hid => (hmem _).2 ⟨e, he, by unfold En.key; rw [t.ok.homes e he e0 he0 (hid.trans hi0.symm), hd0]⟩
        have It := I.t
        rw [List.take_length] at It
        have hU := Hi.part_all hall
        have hc : (T.br i).kind = 2 → T.count (T.br i).dir = 0 := fun hk2 => Nat.eq_zero_of_not_pos fun hp => hbusy ⟨hk2, hp⟩
        have hdel : T.delete d s = (T.gone i, T.br i, 0) := by
          have hb : ¬ ((T.br i).kind = 2 ∧ 0 < T.count (T.br i).dir) := hbusy
          unfold Hi.delete Hi.get; rw [hg]; simp only [if_neg hb]
        have fl := t.ltb
        have fin : ∀ {h3 h4 H5 : Hp} {slx : Value}, TreeB h3 F (T.gone i) bt bl bd bu nb → h.next ≤ h3.next → (∀ j, j < h.next → ¬ F j → h3.get j = h.get j) → Keep h3 h4 → TmTy h4 (fun j => h3.next ≤ j) slx (T.br i).acl → Same 65 h4 H5 →
            (∀ j, j < h.next → H5.get j = h4.get j) → DelP h F bt (T.delete d s) (.tuple #[.agg (bnC (T.br i) slx).toArray, .int .i64 0]) H5 := fun {h3 h4 H5 slx} y1 y2 y3 y4 y5 y6 y7 => by
          rw [hdel]
          refine ⟨⟨slx, rfl, y5.same y6 fun j hj => Nat.le_trans y2 hj⟩, F, ⟨bl, bd, bu, nb, y1.keep (Nat.le_trans y4.1 y6.1) fun j hj => ?_⟩, Nat.le_trans y2 (Nat.le_trans y4.1 y6.1), fun j h1 h2 => ?_, fun _ hj => .inl hj⟩
          · have h1 := t.lt j hj
            rw [y7 j h1, y4.2 j (by omega)]
          · rw [y7 j h1, y4.2 j (by omega), y3 j h1 h2]
        have hb2 : ∀ j, j < h.next → ¬ F j → h2.get j = h.get j := fun j h1 h2' => (I.same j (by omega) h2').trans (hk.2 j h1)
        have hn2x := I.next
        obtain ⟨n0, hn0', hF0, sl0, hlt0, hrow0, hsl0⟩ := It.node e0 he0
        rw [hi0] at hn0' hrow0
        have hn00 : n0 = n := by rw [hn] at hn0'; exact (Option.some.inj hn0').symm
        subst hn00
        have hrn := rowOf_rw hrow0
        unfold ndC at hrn
        have r0' := rowOf_rw It.core.row
        by_cases kk1 : (T.br i).kind = 1
        · have f1 : ((T.br i).kind == 1) = true := by simp [kk1]
          have kk2 : ¬ (T.br i).kind = 2 := by omega
          obtain ⟨h3, x1, m3, n3, s3⟩ := It.core.u.del (t := 90) (kt := 3) (et := 106) (P := kon.P) (by kernel_rfl) (keyI_ok Tryz.underlying3) (T.br i).uid
          unfold keyI at x1
          repeat' (first | simp only [evr, nextP_norm, evd, evq, beq_self_eq_true, cond_true, cond_false, reduceIte, Nat.reduceEqDiff, Nat.reduceAdd, Int.reduceBNe, Int.reduceBEq, Int.reduceLT, Int.reduceLE, Int.reduceEq, evh, evp, Nat.reduceLeDiff, Nat.reduceSub, Nat.reduceBEq, typs, a47, a48, e3, a0, a1, a6, a8, hrn, f1] | refine kCond2_by (fun hc => ?_) (fun hc => ?_) <;> try simp only [hc] | refine kPick_by (fun hc => ?_) (fun hc => ?_) <;> try simp only [hc] | refine kWant_by (fun hc => ?_) (fun hc => ?_) <;> try simp only [hc])
          refine Eq.mpr (Wp_drawOrd (KR.mk (by kernel_rfl))) ?_
          repeat' (first | simp only [evr, nextP_norm, evd, evq, beq_self_eq_true, cond_true, cond_false, reduceIte, Nat.reduceEqDiff, Nat.reduceAdd, Int.reduceBNe, Int.reduceBEq, Int.reduceLT, Int.reduceLE, Int.reduceEq, evh, evp, Nat.reduceLeDiff, Nat.reduceSub, Nat.reduceBEq, typs, a0, a6, a8, hrn, r0', P_delete, kDel, x1] | refine kCond2_by (fun hc => ?_) (fun hc => ?_) <;> try simp only [hc] | refine kPick_by (fun hc => ?_) (fun hc => ?_) <;> try simp only [hc] | refine kWant_by (fun hc => ?_) (fun hc => ?_) <;> try simp only [hc])
          obtain ⟨tB, nodes⟩ := It.gone hU hg hc (h' := h3) (by rw [if_neg kk2, if_pos kk1]; exact ⟨by rw [s3 bt It.core.bt_bu]; exact It.core.row, It.core.l.eq (s3 bl It.core.lu), It.core.d.eq (s3 bd It.core.du), m3, It.core.ld, It.core.lu, It.core.du⟩) n3 (fun j _ h1 => s3 j h1)
          obtain ⟨n1, y1, y2, hN⟩ := nodes e0 he0
          rw [hi0] at y1 hN
          have hn11 : n1 = n0 := by rw [hn] at y1; exact (Option.some.inj y1).symm
          subst hn11
          refine callP_meets (out_spec hN (t.acl i)) ?_
          rintro v h4 ⟨k4, slx, rfl, hs4⟩
          have z4 := (k4.2 h.next (by omega)).trans ((s3 h.next (by omega)).trans I.z)
          have hsc := hs4.isCell
          have hcv := hs4.cellsV
          have z4' := z4
          unfold zeroC at z4'
          unfold outV bnC
          have k4n := k4.1
          have e8 : (h.next = h4.next) = False := eq_false (by omega)
          have e9 : (h4.next = h.next) = False := eq_false (by omega)
          repeat' (first | simp only [evr, nextP_norm, evd, evq, beq_self_eq_true, cond_true, cond_false, reduceIte, Nat.reduceEqDiff, Nat.reduceAdd, Int.reduceBNe, Int.reduceBEq, Int.reduceLT, Int.reduceLE, Int.reduceEq, evh, evp, Nat.reduceLeDiff, Nat.reduceSub, Nat.reduceBEq, typs, a6, hsc, hcv, z4', e8, e9, if_false] | refine kCond2_by (fun hc => ?_) (fun hc => ?_) <;> try simp only [hc] | refine kPick_by (fun hc => ?_) (fun hc => ?_) <;> try simp only [hc] | refine kWant_by (fun hc => ?_) (fun hc => ?_) <;> try simp only [hc])
          refine fin tB (by omega) (fun j h1 h2' => (s3 j (fun e => h2' (e ▸ t.own.2.2.2))).trans (hb2 j h1 h2')) k4 hs4 (Same.trans (Same.trans (Same.keep (Keep.push _ _)) (Same.set (b := h4.next) ?_)) (Same.set (b := h.next) ?_)) fun j hj => ?_
          · rw [Hp.get_push_self]; exact (by decide : 40 ≠ 65)
          · rw [Hp.get_set_ne (by omega), Hp.get_push_lt (by omega), z4]; exact (by decide : 40 ≠ 65)
          · rw [Hp.get_set_ne (by omega), Hp.get_set_ne (by omega), Hp.get_push_lt (by omega)]
        · have f1 : ((T.br i).kind == 1) = false := by simp [kk1]
          by_cases kk2 : (T.br i).kind = 2
          · have f2 : ((T.br i).kind == 2) = true := by simp [kk2]
            obtain ⟨h3, x1, m3, n3, s3⟩ := It.core.d.del (t := 89) (kt := 3) (et := 3) (P := kon.P) (by kernel_rfl) (keyI_ok Tryz.underlying3) (T.br i).dir
            unfold keyI at x1
            repeat' (first | simp only [evr, nextP_norm, evd, evq, beq_self_eq_true, cond_true, cond_false, reduceIte, Nat.reduceEqDiff, Nat.reduceAdd, Int.reduceBNe, Int.reduceBEq, Int.reduceLT, Int.reduceLE, Int.reduceEq, evh, evp, Nat.reduceLeDiff, Nat.reduceSub, Nat.reduceBEq, typs, a47, a48, e3, a0, a1, a6, a8, hrn, f1, f2] | refine kCond2_by (fun hc => ?_) (fun hc => ?_) <;> try simp only [hc] | refine kPick_by (fun hc => ?_) (fun hc => ?_) <;> try simp only [hc] | refine kWant_by (fun hc => ?_) (fun hc => ?_) <;> try simp only [hc])
            refine Eq.mpr (Wp_drawOrd (KR.mk (by kernel_rfl))) ?_
            repeat' (first | simp only [evr, nextP_norm, evd, evq, beq_self_eq_true, cond_true, cond_false, reduceIte, Nat.reduceEqDiff, Nat.reduceAdd, Int.reduceBNe, Int.reduceBEq, Int.reduceLT, Int.reduceLE, Int.reduceEq, evh, evp, Nat.reduceLeDiff, Nat.reduceSub, Nat.reduceBEq, typs, a0, a6, a8, hrn, r0', P_delete, kDel, x1] | refine kCond2_by (fun hc => ?_) (fun hc => ?_) <;> try simp only [hc] | refine kPick_by (fun hc => ?_) (fun hc => ?_) <;> try simp only [hc] | refine kWant_by (fun hc => ?_) (fun hc => ?_) <;> try simp only [hc])
            obtain ⟨tB, nodes⟩ := It.gone hU hg hc (h' := h3) (by rw [if_pos kk2, if_neg kk1]; exact ⟨by rw [s3 bt It.core.bt_bd]; exact It.core.row, It.core.l.eq (s3 bl It.core.ld), m3, It.core.u.eq (s3 bu (Ne.symm It.core.du)), It.core.ld, It.core.lu, It.core.du⟩) n3 (fun j h1 _ => s3 j h1)
            obtain ⟨n1, y1, y2, hN⟩ := nodes e0 he0
            rw [hi0] at y1 hN
            have hn11 : n1 = n0 := by rw [hn] at y1; exact (Option.some.inj y1).symm
            subst hn11
            refine callP_meets (out_spec hN (t.acl i)) ?_
            rintro v h4 ⟨k4, slx, rfl, hs4⟩
            have z4 := (k4.2 h.next (by omega)).trans ((s3 h.next (by omega)).trans I.z)
            have hsc := hs4.isCell
            have hcv := hs4.cellsV
            have z4' := z4
            unfold zeroC at z4'
            unfold outV bnC
            have k4n := k4.1
            have e8 : (h.next = h4.next) = False := eq_false (by omega)
            have e9 : (h4.next = h.next) = False := eq_false (by omega)
            repeat' (first | simp only [evr, nextP_norm, evd, evq, beq_self_eq_true, cond_true, cond_false, reduceIte, Nat.reduceEqDiff, Nat.reduceAdd, Int.reduceBNe, Int.reduceBEq, Int.reduceLT, Int.reduceLE, Int.reduceEq, evh, evp, Nat.reduceLeDiff, Nat.reduceSub, Nat.reduceBEq, typs, a6, hsc, hcv, z4', e8, e9, if_false] | refine kCond2_by (fun hc => ?_) (fun hc => ?_) <;> try simp only [hc] | refine kPick_by (fun hc => ?_) (fun hc => ?_) <;> try simp only [hc] | refine kWant_by (fun hc => ?_) (fun hc => ?_) <;> try simp only [hc])
            refine fin tB (by omega) (fun j h1 h2' => (s3 j (fun e => h2' (e ▸ t.own.2.2.1))).trans (hb2 j h1 h2')) k4 hs4 (Same.trans (Same.trans (Same.keep (Keep.push _ _)) (Same.set (b := h4.next) ?_)) (Same.set (b := h.next) ?_)) fun j hj => ?_
            · rw [Hp.get_push_self]; exact (by decide : 40 ≠ 65)
            · rw [Hp.get_set_ne (by omega), Hp.get_push_lt (by omega), z4]; exact (by decide : 40 ≠ 65)
            · rw [Hp.get_set_ne (by omega), Hp.get_set_ne (by omega), Hp.get_push_lt (by omega)]
          · have f2 : ((T.br i).kind == 2) = false := by simp [kk2]
            obtain ⟨tB, nodes⟩ := It.gone hU hg hc (by rw [if_neg kk1, if_neg kk2]; exact It.core) rfl (fun _ _ _ => rfl)
            obtain ⟨n1, y1, y2, hN⟩ := nodes e0 he0
            rw [hi0] at y1 hN
            have hn11 : n1 = n0 := by rw [hn] at y1; exact (Option.some.inj y1).symm
            subst hn11
            repeat' (first | simp only [evr, nextP_norm, evd, evq, beq_self_eq_true, cond_true, cond_false, reduceIte, Nat.reduceEqDiff, Nat.reduceAdd, Int.reduceBNe, Int.reduceBEq, Int.reduceLT, Int.reduceLE, Int.reduceEq, evh, evp, Nat.reduceLeDiff, Nat.reduceSub, Nat.reduceBEq, typs, a47, a48, e3, a0, a1, a6, a8, hrn, f1, f2] | refine kCond2_by (fun hc => ?_) (fun hc => ?_) <;> try simp only [hc] | refine kPick_by (fun hc => ?_) (fun hc => ?_) <;> try simp only [hc] | refine kWant_by (fun hc => ?_) (fun hc => ?_) <;> try simp only [hc])
            refine callP_meets (out_spec hN (t.acl i)) ?_
            rintro v h4 ⟨k4, slx, rfl, hs4⟩
            have z4 := (k4.2 h.next (by omega)).trans I.z
            have hsc := hs4.isCell
            have hcv := hs4.cellsV
            have z4' := z4
            unfold zeroC at z4'
            unfold outV bnC
            have k4n := k4.1
            have e8 : (h.next = h4.next) = False := eq_false (by omega)
            have e9 : (h4.next = h.next) = False := eq_false (by omega)
            repeat' (first | simp only [evr, nextP_norm, evd, evq, beq_self_eq_true, cond_true, cond_false, reduceIte, Nat.reduceEqDiff, Nat.reduceAdd, Int.reduceBNe, Int.reduceBEq, Int.reduceLT, Int.reduceLE, Int.reduceEq, evh, evp, Nat.reduceLeDiff, Nat.reduceSub, Nat.reduceBEq, typs, a6, hsc, hcv, z4', e8, e9, if_false] | refine kCond2_by (fun hc => ?_) (fun hc => ?_) <;> try simp only [hc] | refine kPick_by (fun hc => ?_) (fun hc => ?_) <;> try simp only [hc] | refine kWant_by (fun hc => ?_) (fun hc => ?_) <;> try simp only [hc])
            refine fin tB (by omega) hb2 k4 hs4 (Same.trans (Same.trans (Same.keep (Keep.push _ _)) (Same.set (b := h4.next) ?_)) (Same.set (b := h.next) ?_)) fun j hj => ?_
            · rw [Hp.get_push_self]; exact (by decide : 40 ≠ 65)
            · rw [Hp.get_set_ne (by omega), Hp.get_push_lt (by omega), z4]; exact (by decide : 40 ≠ 65)
            · rw [Hp.get_set_ne (by omega), Hp.get_set_ne (by omega), Hp.get_push_lt (by omega)]
end
end Go.Proofs.YtncmgiddcefpcaaGreatDoor
namespace Go.Proofs.YtncmgiddcefpcaaGreatDoor
open Go Go.Ev Go.Con
set_option linter.unusedSimpArgs false
set_option linter.unusedVariables false
set_option maxRecDepth 100000
def enC (e : En) : List Value := [.int .i64 e.dir, .int .i64 e.id, .string e.name]
def ens (l : List En) : List Value := (l.map enC).flatten
abbrev EnSl (h : Hp) (v : Value) (l : List En) : Prop := SlAt h 3 v (ens l)
theorem ens_len (l : List En) : (ens l).length = l.length * 3 := by
  induction l with
  | nil => rfl
  | cons a l ih => simp only [ens, List.map_cons, List.flatten_cons, List.length_append] at ih ⊢; rw [ih]; simp [enC]; omega
theorem ens_at (l : List En) {i : Nat} {x : En} (h : l[i]? = some x) : ((ens l).drop (i * 3)).take 3 = enC x := by
  induction l generalizing i with
  | nil => simp at h
  | cons a l ih =>
    cases i with
    | zero => simp at h; subst h; simp [ens, enC]
    | succ i =>
      have := ih (i := i) (by simpa using h)
      rw [show (i + 1) * 3 = 3 + i * 3 by omega]
      have e : (ens (a :: l)).drop (3 + i * 3) = (ens l).drop (i * 3) := by
        rw [← List.drop_drop]; congr 1
      rw [e, this]
theorem EnSl.len {h : Hp} {v : Value} {l : List En} (s : EnSl h v l) : evLen kon.P 95 v = some (.int .i64 l.length) := by
  rcases s with ⟨rfl, hl⟩ | ⟨b, o, k, c, all, rfl, h2, h3, h4, h5, h6⟩
  · have : (ens l).length = 0 := by rw [hl]; rfl
    rw [ens_len] at this
    have : l = [] := List.length_eq_zero_iff.1 (by omega)
    subst this; exact evLen_slice (e := 126) (by kernel_rfl)
  · rw [ens_len] at h5
    have : k = l.length := by omega
    subst this
    exact evLen_slice (e := 126) (by kernel_rfl)
theorem EnSl.at {h : Hp} {v : Value} {l : List En} (s : EnSl h v l) {i : Nat} {x : En} (hi : l[i]? = some x) : ∃ b o all, evIndexAddr kon.P 95 v (.int .i64 i) = some (.pointer (some ⟨b, o, none⟩)) ∧ b < h.next ∧
    rowOf h b = some all ∧ all[o]? = some (.int .i64 x.dir) ∧ all[o + 1]? = some (.int .i64 x.id) ∧ all[o + 2]? = some (.string x.name) := by
  have hlt : i < l.length := (List.getElem?_eq_some_iff.1 hi).1
  rcases s with ⟨rfl, hl⟩ | ⟨b, o, k, c, all, rfl, h2, h3, h4, h5, h6⟩
  · have : (ens l).length = 0 := by rw [hl]; rfl
    rw [ens_len] at this; omega
  · have hk : l.length = k := by rw [ens_len] at h5; omega
    subst hk
    have hz : o + l.length * 3 ≤ all.length := by
      have := congrArg List.length h6
      rw [List.length_take, List.length_drop, ens_len] at this; omega
    have hc : (all.drop (o + i * 3)).take 3 = enC x := by
      rw [← ens_at l hi, ← h6, List.drop_take, List.take_take, List.drop_drop]
      congr 1; omega
    refine ⟨b, o + i * 3, all, ?_, h3, h4, ?_, ?_, ?_⟩
    · have := L_indexAddr (C := kon) (t := 95) (e := 126) (n := 3) (by kernel_rfl) (by kernel_rfl) b o l.length c .i64 i (by omega) (by omega)
      simpa using this
    · have := congrArg (fun c : List Value => c[0]?) hc
      simpa [enC] using this
    · have := congrArg (fun c : List Value => c[1]?) hc
      simpa [enC] using this
    · have := congrArg (fun c : List Value => c[2]?) hc
      simpa [enC] using this
def atI (l : List En) (d : Int) (s : ByteArray) : Int := match l.findIdx? fun e => decide (e.key = (d, s)) with
  | some k => k
  | none => -1
theorem rAt_spec {h : Hp} {b : Nat} {sB sL sD : Value} {l : List En} (hr : rowOf h b = some [sB, sL, sD]) (s : EnSl h sL l) (hl : l.length ≤ 1000000000) (d : Int) (n : ByteArray) :
    Meets kon 80 [ptrV b, .int .i64 d, .string n] h fun v h' => v = .int .i64 (atI l d n) ∧ h' = h := by
  have la := s.len
  unfold ptrV
  refine Meets.mk rfl (by kernel_rfl) Tryz.func80 rfl (congrArg Array.toList Tryz.results80) ?_
  repeat' (first | simp only [evr, nextP_norm, evd, evq, beq_self_eq_true, cond_true, cond_false, reduceIte, Nat.reduceEqDiff, Nat.reduceAdd, Int.reduceBNe, Int.reduceBEq, Int.reduceLT, Int.reduceLE, Int.reduceEq, evh, evp, Nat.reduceLeDiff, Nat.reduceSub, Nat.reduceBEq, typs] | refine kCond2_by (fun hc => ?_) (fun hc => ?_) <;> try simp only [hc] | refine kPick_by (fun hc => ?_) (fun hc => ?_) <;> try simp only [hc] | refine kWant_by (fun hc => ?_) (fun hc => ?_) <;> try simp only [hc])
  refine Wp_loop (fun k fr h' => h' = h ∧ ∃ i : Nat, k = l.length - i ∧ i ≤ l.length ∧ fr.get 0 = some (.pointer (some ⟨b, 0, none⟩)) ∧ fr.get 1 = some (.int .i64 d) ∧ fr.get 2 = some (.string n) ∧ fr.get 7 = some (.int .i64 i) ∧ (∀ e ∈ l.take i, e.key ≠ (d, n))) l.length ⟨rfl, 0, rfl, Nat.zero_le _, ?_, ?_, ?_, ?_, by simp⟩ ?_
  · repeat' (first | simp only [evr, nextP_norm, evd, evq, beq_self_eq_true, cond_true, cond_false, reduceIte, Nat.reduceEqDiff, Nat.reduceAdd, Int.reduceBNe, Int.reduceBEq, Int.reduceLT, Int.reduceLE, Int.reduceEq, evh, evp, Nat.reduceLeDiff, Nat.reduceSub, Nat.reduceBEq, typs] | refine kCond2_by (fun hc => ?_) (fun hc => ?_) <;> try simp only [hc] | refine kPick_by (fun hc => ?_) (fun hc => ?_) <;> try simp only [hc] | refine kWant_by (fun hc => ?_) (fun hc => ?_) <;> try simp only [hc])
  · repeat' (first | simp only [evr, nextP_norm, evd, evq, beq_self_eq_true, cond_true, cond_false, reduceIte, Nat.reduceEqDiff, Nat.reduceAdd, Int.reduceBNe, Int.reduceBEq, Int.reduceLT, Int.reduceLE, Int.reduceEq, evh, evp, Nat.reduceLeDiff, Nat.reduceSub, Nat.reduceBEq, typs] | refine kCond2_by (fun hc => ?_) (fun hc => ?_) <;> try simp only [hc] | refine kPick_by (fun hc => ?_) (fun hc => ?_) <;> try simp only [hc] | refine kWant_by (fun hc => ?_) (fun hc => ?_) <;> try simp only [hc])
  · repeat' (first | simp only [evr, nextP_norm, evd, evq, beq_self_eq_true, cond_true, cond_false, reduceIte, Nat.reduceEqDiff, Nat.reduceAdd, Int.reduceBNe, Int.reduceBEq, Int.reduceLT, Int.reduceLE, Int.reduceEq, evh, evp, Nat.reduceLeDiff, Nat.reduceSub, Nat.reduceBEq, typs] | refine kCond2_by (fun hc => ?_) (fun hc => ?_) <;> try simp only [hc] | refine kPick_by (fun hc => ?_) (fun hc => ?_) <;> try simp only [hc] | refine kWant_by (fun hc => ?_) (fun hc => ?_) <;> try simp only [hc])
  · repeat' (first | simp only [evr, nextP_norm, evd, evq, beq_self_eq_true, cond_true, cond_false, reduceIte, Nat.reduceEqDiff, Nat.reduceAdd, Int.reduceBNe, Int.reduceBEq, Int.reduceLT, Int.reduceLE, Int.reduceEq, evh, evp, Nat.reduceLeDiff, Nat.reduceSub, Nat.reduceBEq, typs] | refine kCond2_by (fun hc => ?_) (fun hc => ?_) <;> try simp only [hc] | refine kPick_by (fun hc => ?_) (fun hc => ?_) <;> try simp only [hc] | refine kWant_by (fun hc => ?_) (fun hc => ?_) <;> try simp only [hc])
    rfl
  rintro k fr h' ⟨rfl, i, rfl, hi, g0, g1, g2, g7, hp⟩
  by_cases h3 : i < l.length
  · have e3 : decide ((i : Int) < l.length) = true := by simp; omega
    obtain ⟨b2, o, all, ha, hb, hr2, c0, c1, c2⟩ := EnSl.at s (List.getElem?_eq_getElem h3)
    have w1 := wrap64 (x := (i : Int) + 1) (by omega) (by omega)
    by_cases hk : l[i].key = (d, n)
    · have k1 : (l[i].dir == d) = true := by have := congrArg Prod.fst hk; simpa [En.key] using this
      have k2 : decide (l[i].name = n) = true := by have := congrArg Prod.snd hk; simpa [En.key] using this
      repeat' (first | simp only [evr, nextP_norm, evd, evq, beq_self_eq_true, cond_true, cond_false, reduceIte, Nat.reduceEqDiff, Nat.reduceAdd, Int.reduceBNe, Int.reduceBEq, Int.reduceLT, Int.reduceLE, Int.reduceEq, evh, evp, Nat.reduceLeDiff, Nat.reduceSub, Nat.reduceBEq, typs, g0, g1, g2, g7, hr, la, e3, ha, hr2, c0, c2, k1, k2] | refine kCond2_by (fun hc => ?_) (fun hc => ?_) <;> try simp only [hc] | refine kPick_by (fun hc => ?_) (fun hc => ?_) <;> try simp only [hc] | refine kWant_by (fun hc => ?_) (fun hc => ?_) <;> try simp only [hc])
      unfold atI
      have : l.findIdx? (fun e => decide (e.key = (d, n))) = some i := by
        rw [List.findIdx?_eq_some_iff_getElem]
        refine ⟨h3, by simpa using hk, fun j hj => ?_⟩
        have := hp l[j] (List.mem_take_iff_getElem.2 ⟨j, by omega, rfl⟩)
        simpa using this
      rw [this]
    · have nxt : ∀ e ∈ l.take (i + 1), e.key ≠ (d, n) := fun e he => by
        rw [← List.take_append_getElem h3] at he
        rcases List.mem_append.1 he with he | he
        · exact hp e he
        · simp only [List.mem_singleton] at he; subst he; exact hk
      by_cases k1 : l[i].dir = d
      · have k1' : (l[i].dir == d) = true := by simp [k1]
        have k2 : decide (l[i].name = n) = false := decide_eq_false fun e => hk (by unfold En.key; rw [k1, e])
        repeat' (first | simp only [evr, nextP_norm, evd, evq, beq_self_eq_true, cond_true, cond_false, reduceIte, Nat.reduceEqDiff, Nat.reduceAdd, Int.reduceBNe, Int.reduceBEq, Int.reduceLT, Int.reduceLE, Int.reduceEq, evh, evp, Nat.reduceLeDiff, Nat.reduceSub, Nat.reduceBEq, typs, g0, g1, g2, g7, hr, la, e3, ha, hr2, c0, c2, k1', k2, w1] | refine kCond2_by (fun hc => ?_) (fun hc => ?_) <;> try simp only [hc] | refine kPick_by (fun hc => ?_) (fun hc => ?_) <;> try simp only [hc] | refine kWant_by (fun hc => ?_) (fun hc => ?_) <;> try simp only [hc])
        exact ⟨l.length - (i + 1), by omega, i + 1, rfl, by omega, rfl, nxt⟩
      · have k1' : (l[i].dir == d) = false := by simp [k1]
        repeat' (first | simp only [evr, nextP_norm, evd, evq, beq_self_eq_true, cond_true, cond_false, reduceIte, Nat.reduceEqDiff, Nat.reduceAdd, Int.reduceBNe, Int.reduceBEq, Int.reduceLT, Int.reduceLE, Int.reduceEq, evh, evp, Nat.reduceLeDiff, Nat.reduceSub, Nat.reduceBEq, typs, g0, g1, g2, g7, hr, la, e3, ha, hr2, c0, c2, k1', w1] | refine kCond2_by (fun hc => ?_) (fun hc => ?_) <;> try simp only [hc] | refine kPick_by (fun hc => ?_) (fun hc => ?_) <;> try simp only [hc] | refine kWant_by (fun hc => ?_) (fun hc => ?_) <;> try simp only [hc])
        exact ⟨l.length - (i + 1), by omega, i + 1, rfl, by omega, rfl, nxt⟩
  · have e3 : decide ((i : Int) < l.length) = false := by simp; omega
    repeat' (first | simp only [evr, nextP_norm, evd, evq, beq_self_eq_true, cond_true, cond_false, reduceIte, Nat.reduceEqDiff, Nat.reduceAdd, Int.reduceBNe, Int.reduceBEq, Int.reduceLT, Int.reduceLE, Int.reduceEq, evh, evp, Nat.reduceLeDiff, Nat.reduceSub, Nat.reduceBEq, typs, g0, g1, g2, g7, hr, la, e3] | refine kCond2_by (fun hc => ?_) (fun hc => ?_) <;> try simp only [hc] | refine kPick_by (fun hc => ?_) (fun hc => ?_) <;> try simp only [hc] | refine kWant_by (fun hc => ?_) (fun hc => ?_) <;> try simp only [hc])
    unfold atI
    have hi2 : i = l.length := by omega
    subst hi2
    rw [List.take_length] at hp
    have : l.findIdx? (fun e => decide (e.key = (d, n))) = none := by
      rw [List.findIdx?_eq_none_iff]; intro e he; simpa using hp e he
    rw [this]
abbrev BoSl (h : Hp) (v : Value) (l : List Bool) : Prop := SlAt h 1 v (l.map Value.bool)
theorem BoSl.len {h : Hp} {v : Value} {l : List Bool} (s : BoSl h v l) : evLen kon.P 93 v = some (.int .i64 l.length) := by
  rcases s with ⟨rfl, hl⟩ | ⟨b, o, k, c, all, rfl, h2, h3, h4, h5, h6⟩
  · have : l = [] := by simpa using hl
    subst this
    exact evLen_slice (e := 4) (by kernel_rfl)
  · have : k = l.length := by simpa using h5.symm
    subst this
    exact evLen_slice (e := 4) (by kernel_rfl)
theorem BoSl.at {h : Hp} {v : Value} {l : List Bool} (s : BoSl h v l) {i : Nat} {x : Bool} (hi : l[i]? = some x) : ∃ b o all, evIndexAddr kon.P 93 v (.int .i64 i) = some (.pointer (some ⟨b, o, none⟩)) ∧ b < h.next ∧ rowOf h b = some all ∧ all[o]? = some (.bool x) := by
  have hlt : i < l.length := (List.getElem?_eq_some_iff.1 hi).1
  rcases s with ⟨rfl, hl⟩ | ⟨b, o, k, c, all, rfl, h2, h3, h4, h5, h6⟩
  · have : l = [] := by simpa using hl
    subst this; simp at hlt
  · have hk : k = l.length := by simpa using h5.symm
    subst hk
    refine ⟨b, o + i, all, ?_, h3, h4, ?_⟩
    · have := L_indexAddr (C := kon) (t := 93) (e := 4) (n := 1) (by kernel_rfl) (by kernel_rfl) b o l.length c .i64 i (by omega) (by omega)
      simpa using this
    · have h7 : ((all.drop o).take (l.length * 1))[i]? = some (.bool x) := by rw [h6]; simp [hi]
      rw [List.getElem?_take, if_pos (by omega), List.getElem?_drop] at h7
      exact h7
theorem rDir_spec {h : Hp} {b : Nat} {sB sL sD : Value} {D : List Bool} (hr : rowOf h b = some [sB, sL, sD]) (s : BoSl h sD D) (d : Int) :
    Meets kon 95 [ptrV b, .int .i64 d] h fun v h' => v = .bool (decide (0 ≤ d) && (D[d.toNat]? == some true)) ∧ h' = h := by
  have la := s.len
  unfold ptrV
  refine Meets.mk rfl (by kernel_rfl) Tryz.func95 rfl (congrArg Array.toList Tryz.results95) ?_
  by_cases h0 : 0 ≤ d
  · have f0 : decide (0 ≤ d) = true := decide_eq_true h0
    by_cases h1 : d < D.length
    · have f1 : decide (d < (D.length : Int)) = true := decide_eq_true h1
      have hlt : d.toNat < D.length := by omega
      obtain ⟨b2, o, all, ha, hb, hr2, c0⟩ := s.at (List.getElem?_eq_getElem hlt)
      rw [show ((d.toNat : Nat) : Int) = d by omega] at ha
      have e1 : D[d.toNat]? = some D[d.toNat] := List.getElem?_eq_getElem hlt
      cases hv : D[d.toNat] <;> rw [hv] at c0 e1
      all_goals
        repeat' (first | simp only [evr, nextP_norm, evd, evq, beq_self_eq_true, cond_true, cond_false, reduceIte, Nat.reduceEqDiff, Nat.reduceAdd, Int.reduceBNe, Int.reduceBEq, Int.reduceLT, Int.reduceLE, Int.reduceEq, evh, evp, Nat.reduceLeDiff, Nat.reduceSub, Nat.reduceBEq, typs, hr, la, f0, f1, ha, hr2, c0] | refine kCond2_by (fun hc => ?_) (fun hc => ?_) <;> try simp only [hc] | refine kPick_by (fun hc => ?_) (fun hc => ?_) <;> try simp only [hc] | refine kWant_by (fun hc => ?_) (fun hc => ?_) <;> try simp only [hc])
        rw [e1]; rfl
    · have f1 : decide (d < (D.length : Int)) = false := decide_eq_false h1
      repeat' (first | simp only [evr, nextP_norm, evd, evq, beq_self_eq_true, cond_true, cond_false, reduceIte, Nat.reduceEqDiff, Nat.reduceAdd, Int.reduceBNe, Int.reduceBEq, Int.reduceLT, Int.reduceLE, Int.reduceEq, evh, evp, Nat.reduceLeDiff, Nat.reduceSub, Nat.reduceBEq, typs, hr, la, f0, f1] | refine kCond2_by (fun hc => ?_) (fun hc => ?_) <;> try simp only [hc] | refine kPick_by (fun hc => ?_) (fun hc => ?_) <;> try simp only [hc] | refine kWant_by (fun hc => ?_) (fun hc => ?_) <;> try simp only [hc])
      rw [List.getElem?_eq_none (by omega)]; rfl
  · have f0 : decide (0 ≤ d) = false := decide_eq_false h0
    repeat' (first | simp only [evr, nextP_norm, evd, evq, beq_self_eq_true, cond_true, cond_false, reduceIte, Nat.reduceEqDiff, Nat.reduceAdd, Int.reduceBNe, Int.reduceBEq, Int.reduceLT, Int.reduceLE, Int.reduceEq, evh, evp, Nat.reduceLeDiff, Nat.reduceSub, Nat.reduceBEq, typs, hr, la, f0] | refine kCond2_by (fun hc => ?_) (fun hc => ?_) <;> try simp only [hc] | refine kPick_by (fun hc => ?_) (fun hc => ?_) <;> try simp only [hc] | refine kWant_by (fun hc => ?_) (fun hc => ?_) <;> try simp only [hc])
    rfl
end Go.Proofs.YtncmgiddcefpcaaGreatDoor
namespace Go.Proofs.YtncmgiddcefpcaaGreatDoor
open Go Go.Ev Go.Con
set_option linter.unusedSimpArgs false
set_option linter.unusedVariables false
set_option maxRecDepth 100000
def BnSl (h : Hp) (F : Nat → Prop) (v : Value) (B : List Bn) : Prop := ∃ cs, SlAt h 10 v cs ∧ cs.length = B.length * 10 ∧ ∀ i x, B[i]? = some x → ∃ sl, (cs.drop (i * 10)).take 10 = bnC x sl ∧ TmTy h F sl x.acl
theorem BnSl.at {h : Hp} {F : Nat → Prop} {v : Value} {B : List Bn} (s : BnSl h F v B) {i : Nat} {x : Bn} (hi : B[i]? = some x) : ∃ b o all sl, evIndexAddr kon.P 94 v (.int .i64 i) = some (.pointer (some ⟨b, o, none⟩)) ∧ b < h.next ∧
    rowOf h b = some all ∧ o + 10 ≤ all.length ∧ (all.drop o).take 10 = bnC x sl ∧ TmTy h F sl x.acl := by
  obtain ⟨cs, s, hl, hx⟩ := s
  have hlt : i < B.length := (List.getElem?_eq_some_iff.1 hi).1
  obtain ⟨sl, h8, h9⟩ := hx i x hi
  rcases s with ⟨rfl, rfl⟩ | ⟨b, o, k, c, all, rfl, h2, h3, h4, h5, h6⟩
  · simp at hl; omega
  · have hk : k = B.length := by omega
    subst hk
    have hz : o + B.length * 10 ≤ all.length := by
      have := congrArg List.length h6
      rw [List.length_take, List.length_drop] at this; omega
    refine ⟨b, o + i * 10, all, sl, ?_, h3, h4, by omega, ?_, h9⟩
    · have := L_indexAddr (C := kon) (t := 94) (e := 34) (n := 10) (by kernel_rfl) (by kernel_rfl) b o B.length c .i64 i (by omega) (by omega)
      simpa using this
    · rw [← h8, ← h6, List.drop_take, List.take_take, List.drop_drop]
      congr 1; omega
def uidI (o : Option Nat) : Int := match o with
  | some i => i
  | none => -1
theorem rUid_spec {h : Hp} {F : Nat → Prop} {b : Nat} {sB sL sD : Value} {T : Hi} (hr : rowOf h b = some [sB, sL, sD]) (s : EnSl h sL T.L) (sb : BnSl h F sB T.B) (hl : T.L.length ≤ 1000000000) (ids : ∀ e ∈ T.L, e.id < T.B.length) (u : Int) :
    Meets kon 97 [ptrV b, .int .i64 u] h fun v h' => v = .int .i64 (uidI (T.seg u)) ∧ h' = h := by
  have la := s.len
  unfold ptrV
  refine Meets.mk rfl (by kernel_rfl) Tryz.func97 rfl (congrArg Array.toList Tryz.results97) ?_
  repeat' (first | simp only [evr, nextP_norm, evd, evq, beq_self_eq_true, cond_true, cond_false, reduceIte, Nat.reduceEqDiff, Nat.reduceAdd, Int.reduceBNe, Int.reduceBEq, Int.reduceLT, Int.reduceLE, Int.reduceEq, evh, evp, Nat.reduceLeDiff, Nat.reduceSub, Nat.reduceBEq, typs] | refine kCond2_by (fun hc => ?_) (fun hc => ?_) <;> try simp only [hc] | refine kPick_by (fun hc => ?_) (fun hc => ?_) <;> try simp only [hc] | refine kWant_by (fun hc => ?_) (fun hc => ?_) <;> try simp only [hc])
  refine Wp_loop (fun k fr h' => h' = h ∧ ∃ i : Nat, k = T.L.length - i ∧ i ≤ T.L.length ∧ fr.get 0 = some (.pointer (some ⟨b, 0, none⟩)) ∧ fr.get 1 = some (.int .i64 u) ∧ fr.get 5 = some (.int .i64 i) ∧ (∀ e ∈ T.L.take i, T.isSeg u e.id = false)) T.L.length ⟨rfl, 0, rfl, Nat.zero_le _, ?_, ?_, ?_, by simp⟩ ?_
  · repeat' (first | simp only [evr, nextP_norm, evd, evq, beq_self_eq_true, cond_true, cond_false, reduceIte, Nat.reduceEqDiff, Nat.reduceAdd, Int.reduceBNe, Int.reduceBEq, Int.reduceLT, Int.reduceLE, Int.reduceEq, evh, evp, Nat.reduceLeDiff, Nat.reduceSub, Nat.reduceBEq, typs] | refine kCond2_by (fun hc => ?_) (fun hc => ?_) <;> try simp only [hc] | refine kPick_by (fun hc => ?_) (fun hc => ?_) <;> try simp only [hc] | refine kWant_by (fun hc => ?_) (fun hc => ?_) <;> try simp only [hc])
  · repeat' (first | simp only [evr, nextP_norm, evd, evq, beq_self_eq_true, cond_true, cond_false, reduceIte, Nat.reduceEqDiff, Nat.reduceAdd, Int.reduceBNe, Int.reduceBEq, Int.reduceLT, Int.reduceLE, Int.reduceEq, evh, evp, Nat.reduceLeDiff, Nat.reduceSub, Nat.reduceBEq, typs] | refine kCond2_by (fun hc => ?_) (fun hc => ?_) <;> try simp only [hc] | refine kPick_by (fun hc => ?_) (fun hc => ?_) <;> try simp only [hc] | refine kWant_by (fun hc => ?_) (fun hc => ?_) <;> try simp only [hc])
  · repeat' (first | simp only [evr, nextP_norm, evd, evq, beq_self_eq_true, cond_true, cond_false, reduceIte, Nat.reduceEqDiff, Nat.reduceAdd, Int.reduceBNe, Int.reduceBEq, Int.reduceLT, Int.reduceLE, Int.reduceEq, evh, evp, Nat.reduceLeDiff, Nat.reduceSub, Nat.reduceBEq, typs] | refine kCond2_by (fun hc => ?_) (fun hc => ?_) <;> try simp only [hc] | refine kPick_by (fun hc => ?_) (fun hc => ?_) <;> try simp only [hc] | refine kWant_by (fun hc => ?_) (fun hc => ?_) <;> try simp only [hc])
    rfl
  rintro k fr h' ⟨rfl, i, rfl, hi, g0, g1, g5, hp⟩
  by_cases h3 : i < T.L.length
  · have e3 : decide ((i : Int) < T.L.length) = true := by simp; omega
    obtain ⟨b2, o, all, ha, hb, hr2, c0, c1, c2⟩ := EnSl.at s (List.getElem?_eq_getElem h3)
    have hid := ids _ (List.getElem_mem h3)
    obtain ⟨b3, o3, all3, sl3, ha3, hb3, hr3, hz3, hc3, _⟩ := sb.at (List.getElem?_eq_getElem hid)
    have hbr : T.br T.L[i].id = T.B[T.L[i].id] := Hi.br_lt hid
    rw [← hbr] at hc3
    have d0 : all3[o3]? = some (.int .i64 (T.br T.L[i].id).kind) := by
      have := congrArg (fun c : List Value => c[0]?) hc3
      simpa [bnC] using this
    have d1 : all3[o3 + 1]? = some (.int .i64 (T.br T.L[i].id).uid) := by
      have := congrArg (fun c : List Value => c[1]?) hc3
      simpa [bnC] using this
    have w1 := wrap64 (x := (i : Int) + 1) (by omega) (by omega)
    have nxt : T.isSeg u T.L[i].id = false → ∀ e ∈ T.L.take (i + 1), T.isSeg u e.id = false := fun hk e he => by
      rw [← List.take_append_getElem h3] at he
      rcases List.mem_append.1 he with he | he
      · exact hp e he
      · simp only [List.mem_singleton] at he; subst he; exact hk
    repeat' (first | simp only [evr, nextP_norm, evd, evq, beq_self_eq_true, cond_true, cond_false, reduceIte, Nat.reduceEqDiff, Nat.reduceAdd, Int.reduceBNe, Int.reduceBEq, Int.reduceLT, Int.reduceLE, Int.reduceEq, evh, evp, Nat.reduceLeDiff, Nat.reduceSub, Nat.reduceBEq, typs, g0, g1, g5, hr, la, e3] | refine kCond2_by (fun hc => ?_) (fun hc => ?_) <;> try simp only [hc] | refine kPick_by (fun hc => ?_) (fun hc => ?_) <;> try simp only [hc] | refine kWant_by (fun hc => ?_) (fun hc => ?_) <;> try simp only [hc])
    refine Eq.mpr (Wp_drawOrd (KR.mk (by kernel_rfl))) ?_
    by_cases k1 : (T.br T.L[i].id).kind = 1
    · have k1' : ((T.br T.L[i].id).kind == 1) = true := by simp [k1]
      by_cases k2 : (T.br T.L[i].id).uid = u
      · have k2' : ((T.br T.L[i].id).uid == u) = true := by simp [k2]
        repeat' (first | simp only [evr, nextP_norm, evd, evq, beq_self_eq_true, cond_true, cond_false, reduceIte, Nat.reduceEqDiff, Nat.reduceAdd, Int.reduceBNe, Int.reduceBEq, Int.reduceLT, Int.reduceLE, Int.reduceEq, evh, evp, Nat.reduceLeDiff, Nat.reduceSub, Nat.reduceBEq, typs, g0, g1, g5, hr, la, ha, hr2, c1, ha3, hr3, d0, d1, k1', k2'] | refine kCond2_by (fun hc => ?_) (fun hc => ?_) <;> try simp only [hc] | refine kPick_by (fun hc => ?_) (fun hc => ?_) <;> try simp only [hc] | refine kWant_by (fun hc => ?_) (fun hc => ?_) <;> try simp only [hc])
        have hf : T.seg u = some T.L[i].id := by
          unfold Hi.seg
          have : T.L.find? (fun e => T.isSeg u e.id) = some T.L[i] := by
            rw [List.find?_eq_some_iff_getElem]
            refine ⟨by simp [Hi.isSeg, k1, k2], i, h3, rfl, fun j hj => ?_⟩
            have := hp T.L[j] (List.mem_take_iff_getElem.2 ⟨j, by omega, rfl⟩)
            simp [this]
          rw [this]; rfl
        rw [hf]; rfl
      · have k2' : ((T.br T.L[i].id).uid == u) = false := by simp [k2]
        repeat' (first | simp only [evr, nextP_norm, evd, evq, beq_self_eq_true, cond_true, cond_false, reduceIte, Nat.reduceEqDiff, Nat.reduceAdd, Int.reduceBNe, Int.reduceBEq, Int.reduceLT, Int.reduceLE, Int.reduceEq, evh, evp, Nat.reduceLeDiff, Nat.reduceSub, Nat.reduceBEq, typs, g0, g1, g5, hr, la, ha, hr2, c1, ha3, hr3, d0, d1, k1', k2', w1] | refine kCond2_by (fun hc => ?_) (fun hc => ?_) <;> try simp only [hc] | refine kPick_by (fun hc => ?_) (fun hc => ?_) <;> try simp only [hc] | refine kWant_by (fun hc => ?_) (fun hc => ?_) <;> try simp only [hc])
        exact ⟨T.L.length - (i + 1), by omega, i + 1, rfl, by omega, rfl, nxt (by simp [Hi.isSeg, k2])⟩
    · have k1' : ((T.br T.L[i].id).kind == 1) = false := by simp [k1]
      repeat' (first | simp only [evr, nextP_norm, evd, evq, beq_self_eq_true, cond_true, cond_false, reduceIte, Nat.reduceEqDiff, Nat.reduceAdd, Int.reduceBNe, Int.reduceBEq, Int.reduceLT, Int.reduceLE, Int.reduceEq, evh, evp, Nat.reduceLeDiff, Nat.reduceSub, Nat.reduceBEq, typs, g0, g1, g5, hr, la, ha, hr2, c1, ha3, hr3, d0, d1, k1', w1] | refine kCond2_by (fun hc => ?_) (fun hc => ?_) <;> try simp only [hc] | refine kPick_by (fun hc => ?_) (fun hc => ?_) <;> try simp only [hc] | refine kWant_by (fun hc => ?_) (fun hc => ?_) <;> try simp only [hc])
      exact ⟨T.L.length - (i + 1), by omega, i + 1, rfl, by omega, rfl, nxt (by simp [Hi.isSeg, k1])⟩
  · have e3 : decide ((i : Int) < T.L.length) = false := by simp; omega
    repeat' (first | simp only [evr, nextP_norm, evd, evq, beq_self_eq_true, cond_true, cond_false, reduceIte, Nat.reduceEqDiff, Nat.reduceAdd, Int.reduceBNe, Int.reduceBEq, Int.reduceLT, Int.reduceLE, Int.reduceEq, evh, evp, Nat.reduceLeDiff, Nat.reduceSub, Nat.reduceBEq, typs, g0, g1, g5, hr, la, e3] | refine kCond2_by (fun hc => ?_) (fun hc => ?_) <;> try simp only [hc] | refine kPick_by (fun hc => ?_) (fun hc => ?_) <;> try simp only [hc] | refine kWant_by (fun hc => ?_) (fun hc => ?_) <;> try simp only [hc])
    have hi2 : i = T.L.length := by omega
    subst hi2
    rw [List.take_length] at hp
    rw [Hi.seg_none.2 hp]; rfl
end Go.Proofs.YtncmgiddcefpcaaGreatDoor
namespace Go.Proofs.YtncmgiddcefpcaaGreatDoor
open Go Go.Ev Go.Con
set_option linter.unusedSimpArgs false
set_option linter.unusedVariables false
set_option maxRecDepth 100000
theorem rNames_spec {h : Hp} {b : Nat} {sB sL sD : Value} {T : Hi} (hr : rowOf h b = some [sB, sL, sD]) (s : EnSl h sL T.L) (hl : T.L.length ≤ 1000000000) (j : Nat) :
    Meets kon 81 [ptrV b, .int .i64 j] h fun v h' => v = .int .i64 (T.many j) ∧ h' = h := by
  have la := s.len
  unfold ptrV
  refine Meets.mk rfl (by kernel_rfl) Tryz.func81 rfl (congrArg Array.toList Tryz.results81) ?_
  repeat' (first | simp only [evr, nextP_norm, evd, evq, beq_self_eq_true, cond_true, cond_false, reduceIte, Nat.reduceEqDiff, Nat.reduceAdd, Int.reduceBNe, Int.reduceBEq, Int.reduceLT, Int.reduceLE, Int.reduceEq, evh, evp, Nat.reduceLeDiff, Nat.reduceSub, Nat.reduceBEq, typs] | refine kCond2_by (fun hc => ?_) (fun hc => ?_) <;> try simp only [hc] | refine kPick_by (fun hc => ?_) (fun hc => ?_) <;> try simp only [hc] | refine kWant_by (fun hc => ?_) (fun hc => ?_) <;> try simp only [hc])
  refine Wp_loop (fun k fr h' => h' = h ∧ ∃ i : Nat, k = T.L.length - i ∧ i ≤ T.L.length ∧ fr.get 0 = some (.pointer (some ⟨b, 0, none⟩)) ∧ fr.get 1 = some (.int .i64 j) ∧ fr.get 6 = some (.int .i64 i) ∧ fr.get 5 = some (.int .i64 ((T.L.take i).countP fun e => decide (e.id = j) : Nat))) T.L.length ⟨rfl, 0, rfl, Nat.zero_le _, ?_, ?_, ?_, ?_⟩ ?_
  · repeat' (first | simp only [evr, nextP_norm, evd, evq, beq_self_eq_true, cond_true, cond_false, reduceIte, Nat.reduceEqDiff, Nat.reduceAdd, Int.reduceBNe, Int.reduceBEq, Int.reduceLT, Int.reduceLE, Int.reduceEq, evh, evp, Nat.reduceLeDiff, Nat.reduceSub, Nat.reduceBEq, typs] | refine kCond2_by (fun hc => ?_) (fun hc => ?_) <;> try simp only [hc] | refine kPick_by (fun hc => ?_) (fun hc => ?_) <;> try simp only [hc] | refine kWant_by (fun hc => ?_) (fun hc => ?_) <;> try simp only [hc])
  · repeat' (first | simp only [evr, nextP_norm, evd, evq, beq_self_eq_true, cond_true, cond_false, reduceIte, Nat.reduceEqDiff, Nat.reduceAdd, Int.reduceBNe, Int.reduceBEq, Int.reduceLT, Int.reduceLE, Int.reduceEq, evh, evp, Nat.reduceLeDiff, Nat.reduceSub, Nat.reduceBEq, typs] | refine kCond2_by (fun hc => ?_) (fun hc => ?_) <;> try simp only [hc] | refine kPick_by (fun hc => ?_) (fun hc => ?_) <;> try simp only [hc] | refine kWant_by (fun hc => ?_) (fun hc => ?_) <;> try simp only [hc])
  · repeat' (first | simp only [evr, nextP_norm, evd, evq, beq_self_eq_true, cond_true, cond_false, reduceIte, Nat.reduceEqDiff, Nat.reduceAdd, Int.reduceBNe, Int.reduceBEq, Int.reduceLT, Int.reduceLE, Int.reduceEq, evh, evp, Nat.reduceLeDiff, Nat.reduceSub, Nat.reduceBEq, typs] | refine kCond2_by (fun hc => ?_) (fun hc => ?_) <;> try simp only [hc] | refine kPick_by (fun hc => ?_) (fun hc => ?_) <;> try simp only [hc] | refine kWant_by (fun hc => ?_) (fun hc => ?_) <;> try simp only [hc])
    rfl
  · repeat' (first | simp only [evr, nextP_norm, evd, evq, beq_self_eq_true, cond_true, cond_false, reduceIte, Nat.reduceEqDiff, Nat.reduceAdd, Int.reduceBNe, Int.reduceBEq, Int.reduceLT, Int.reduceLE, Int.reduceEq, evh, evp, Nat.reduceLeDiff, Nat.reduceSub, Nat.reduceBEq, typs] | refine kCond2_by (fun hc => ?_) (fun hc => ?_) <;> try simp only [hc] | refine kPick_by (fun hc => ?_) (fun hc => ?_) <;> try simp only [hc] | refine kWant_by (fun hc => ?_) (fun hc => ?_) <;> try simp only [hc])
    rfl
  rintro k fr h' ⟨rfl, i, rfl, hi, g0, g1, g6, g5⟩
  have hcle : (T.L.take i).countP (fun e => decide (e.id = j)) ≤ i := Nat.le_trans List.countP_le_length (by rw [List.length_take]; exact Nat.min_le_left _ _)
  by_cases h3 : i < T.L.length
  · have e3 : decide ((i : Int) < T.L.length) = true := by simp; omega
    obtain ⟨b2, o, all, ha, hb, hr2, c0, c1, c2⟩ := EnSl.at s (List.getElem?_eq_getElem h3)
    have w1 := wrap64 (x := (i : Int) + 1) (by omega) (by omega)
    have hc : (T.L.take (i + 1)).countP (fun e => decide (e.id = j)) = (T.L.take i).countP (fun e => decide (e.id = j)) + if T.L[i].id = j then 1 else 0 := by
      rw [← List.take_append_getElem h3, List.countP_append, List.countP_singleton]; simp
    generalize (T.L.take i).countP (fun e => decide (e.id = j)) = q at *
    by_cases k1 : T.L[i].id = j
    · have k1' : (((T.L[i].id : Nat) : Int) == (j : Int)) = true := by simp [k1]
      have w2 := wrap64 (x := (q : Int) + 1) (by omega) (by omega)
      rw [if_pos k1] at hc
      repeat' (first | simp only [evr, nextP_norm, evd, evq, beq_self_eq_true, cond_true, cond_false, reduceIte, Nat.reduceEqDiff, Nat.reduceAdd, Int.reduceBNe, Int.reduceBEq, Int.reduceLT, Int.reduceLE, Int.reduceEq, evh, evp, Nat.reduceLeDiff, Nat.reduceSub, Nat.reduceBEq, typs, g0, g1, g6, g5, hr, la, e3, ha, hr2, c1, k1', w1, w2] | refine kCond2_by (fun hc => ?_) (fun hc => ?_) <;> try simp only [hc] | refine kPick_by (fun hc => ?_) (fun hc => ?_) <;> try simp only [hc] | refine kWant_by (fun hc => ?_) (fun hc => ?_) <;> try simp only [hc])
      exact ⟨T.L.length - (i + 1), by omega, i + 1, rfl, by omega, rfl, by rw [hc]; rfl⟩
    · have k1' : (((T.L[i].id : Nat) : Int) == (j : Int)) = false := by simp; omega
      rw [if_neg k1] at hc
      repeat' (first | simp only [evr, nextP_norm, evd, evq, beq_self_eq_true, cond_true, cond_false, reduceIte, Nat.reduceEqDiff, Nat.reduceAdd, Int.reduceBNe, Int.reduceBEq, Int.reduceLT, Int.reduceLE, Int.reduceEq, evh, evp, Nat.reduceLeDiff, Nat.reduceSub, Nat.reduceBEq, typs, g0, g1, g6, g5, hr, la, e3, ha, hr2, c1, k1', w1] | refine kCond2_by (fun hc => ?_) (fun hc => ?_) <;> try simp only [hc] | refine kPick_by (fun hc => ?_) (fun hc => ?_) <;> try simp only [hc] | refine kWant_by (fun hc => ?_) (fun hc => ?_) <;> try simp only [hc])
      exact ⟨T.L.length - (i + 1), by omega, i + 1, rfl, by omega, rfl, by rw [hc]; rfl⟩
  · have e3 : decide ((i : Int) < T.L.length) = false := by simp; omega
    have hi2 : i = T.L.length := by omega
    subst hi2
    rw [List.take_length] at g5
    repeat' (first | simp only [evr, nextP_norm, evd, evq, beq_self_eq_true, cond_true, cond_false, reduceIte, Nat.reduceEqDiff, Nat.reduceAdd, Int.reduceBNe, Int.reduceBEq, Int.reduceLT, Int.reduceLE, Int.reduceEq, evh, evp, Nat.reduceLeDiff, Nat.reduceSub, Nat.reduceBEq, typs, g0, g1, g6, g5, hr, la, e3] | refine kCond2_by (fun hc => ?_) (fun hc => ?_) <;> try simp only [hc] | refine kPick_by (fun hc => ?_) (fun hc => ?_) <;> try simp only [hc] | refine kWant_by (fun hc => ?_) (fun hc => ?_) <;> try simp only [hc])
    rfl
end Go.Proofs.YtncmgiddcefpcaaGreatDoor
namespace Go.Proofs.YtncmgiddcefpcaaGreatDoor
open Go Go.Ev Go.Con
set_option linter.unusedSimpArgs false
set_option linter.unusedVariables false
set_option maxRecDepth 100000
theorem strs_app (a b : List ByteArray) : strs (a ++ b) = strs a ++ strs b := by simp [strs]
theorem strs_len (a : List ByteArray) : (strs a).length = a.length := by simp [strs]
theorem strs_cell (a : List ByteArray) : (strs a).all isCell = true := by rw [List.all_eq_true]; intro x hx; simp only [strs, List.mem_map] at hx; obtain ⟨s, _, rfl⟩ := hx; rfl
abbrev StrGr (h0 : Nat) (h : Hp) (v : Value) (l : List ByteArray) : Prop := Grown h0 h v 9 1 (strs l)
theorem app_str {h0 : Nat} {h : Hp} {v x : Value} {ps qs : List ByteArray} (g : StrGr h0 h v ps) (hh : h0 ≤ h.next) (hx : StrSl h x qs) (hq : 1 ≤ qs.length) (hb : ps.length + qs.length ≤ 1000000000) :
    ∃ v' h', evAppend kon.P 46 v x h = some (v', h') ∧ StrGr h0 h' v' (ps ++ qs) ∧ Kept h0 h h' := by
  obtain ⟨k, h1, h2, h3⟩ := hx.cells
  have hk : k = qs.length := by rw [strs_len] at h3; omega
  subst hk
  unfold StrGr
  rw [strs_app]
  exact append_grown (e := 9) (n := 1) (by_ := 16) (z := .string ByteArray.empty) (by kernel_rfl) (by kernel_rfl) (by kernel_rfl) (by kernel_rfl) (by kernel_rfl) (Nat.le_refl _) g hh h1 h2 hq h3 (strs_cell _)
    (by rw [strs_len]; exact Nat.le_trans (Nat.mul_le_mul_right 17 (show _ ≤ 2000001024 by omega)) (by decide))
theorem StrGr.put {h0 : Nat} {h : Hp} {v : Value} {ps : List ByteArray} (g : StrGr h0 h v ps) {i : Nat} (hi : i < ps.length) :
    ∃ p, evIndexAddr kon.P 46 v (.int .i64 i) = some p ∧ evLoad kon.P 9 p h = some (.string ps[i]) ∧ ∀ x, ∃ h', evStore kon.P 9 p (.string x) h = some h' ∧ StrGr h0 h' v (ps.set i x) ∧ Kept h0 h h' := by
  obtain ⟨p, h1, h2⟩ := StrSl.at g.slAt (List.getElem?_eq_getElem hi)
  refine ⟨p, h1, h2, fun x => ?_⟩
  rcases id g with ⟨_, hn⟩ | ⟨b, k, base, olds, y, rfl, hy, hk, hk1, hb, hg, hbase, hb0, holds⟩
  · have : (strs ps).length = 0 := by rw [hn]; rfl
    rw [strs_len] at this; omega
  · have hk2 : ps.length = k := by rw [strs_len] at hk; omega
    have h3 := L_indexAddr (C := kon) (t := 46) (e := 9) (n := 1) (by kernel_rfl) (by kernel_rfl) b 0 k (2 * k + y) .i64 i (by omega) (by omega)
    rw [h3] at h1
    simp only [Option.some.injEq] at h1
    subst h1
    have h4 := L_store (C := kon) (t := 9) (n := 1) (by kernel_rfl) b (0 + (i : Int).toNat * 1) (.string x) h
    obtain ⟨h', h5, h6, h7⟩ := write_grown g (o := 0 + (i : Int).toNat * 1) (vs := [.string x]) (by rw [strs_len]; simp; omega) rfl
    refine ⟨h', ?_, ?_, h7⟩
    · rw [h4]; exact h5
    · have : splice (strs ps) (0 + (i : Int).toNat * 1) [.string x] = strs (ps.set i x) := by
        simp only [Int.toNat_natCast, Nat.zero_add, Nat.mul_one, splice, strs, List.length_singleton, List.map_set]
        rw [List.set_eq_take_append_cons_drop, if_pos (by simpa using hi)]
        simp
      rw [this] at h6; exact h6
theorem StrSl.front {h : Hp} {v : Value} {ps : List ByteArray} (s : StrSl h v ps) {n : Nat} (hn : n ≤ ps.length) : ∃ u, evSlice kon.P 46 v none (some (.int .i64 n)) none = some u ∧ StrSl h u (ps.take n) := by
  rcases s with ⟨rfl, hp⟩ | ⟨b, o, k, c, all, rfl, h2, h3, h4, h5, h6⟩
  · have : ps = [] := by simpa [strs] using hp
    subst this
    have : n = 0 := by simpa using hn
    subst this
    exact ⟨_, by kernel_rfl, .inl ⟨rfl, rfl⟩⟩
  · have hk : ps.length = k := by rw [strs_len] at h5; omega
    subst hk
    refine ⟨_, (L_sliceSl (C := kon) (t := 46) (e := 9) (n := 1) (by kernel_rfl) (by kernel_rfl)).2.2 b o ps.length c .i64 n (by omega) (by omega) h2, .inr ⟨b, o, n, c, all, by rw [Int.toNat_natCast], by omega, h3, h4, by rw [strs_len, List.length_take]; omega, ?_⟩⟩
    have : strs (ps.take n) = (strs ps).take n := by simp [strs]
    rw [this, ← h6, List.take_take, Nat.mul_one, Nat.mul_one, Nat.min_eq_left hn]
end Go.Proofs.YtncmgiddcefpcaaGreatDoor
namespace Go.Proofs.YtncmgiddcefpcaaGreatDoor
open Go Go.Ev Go.Con
set_option linter.unusedSimpArgs false
set_option linter.unusedVariables false
set_option maxRecDepth 100000
end Go.Proofs.YtncmgiddcefpcaaGreatDoor
namespace Go.Proofs.YtncmgiddcefpcaaGreatDoor
open Go Go.Ev Go.Con
set_option linter.unusedSimpArgs false
set_option linter.unusedVariables false
set_option maxRecDepth 100000
theorem cut_snoc_stroke : ∀ q : List UInt8, cut (q ++ [62]) = cut q ++ [[]]
  | [] => rfl
  | d :: q => by
    have ih := cut_snoc_stroke q
    rw [List.cons_append, cut_cons, cut_cons, ih]
    have hne := cut_ne q
    cases h : cut q with
    | nil => exact absurd h hne
    | cons a b => by_cases hd : d = 62 <;> simp [hd]
theorem cut_snoc : ∀ (q : List UInt8) (c : UInt8), c ≠ 62 → ∀ x, (cut q)[(cut q).length - 1]? = some x → cut (q ++ [c]) = (cut q).set ((cut q).length - 1) (x ++ [c])
  | [], c, hc, x, hx => by
    have : x = [] := by simp [cut] at hx; exact hx
    subst this
    simp [cut, hc]
  | d :: q, c, hc, x, hx => by
    have ih := cut_snoc q c hc
    rw [List.cons_append, cut_cons]
    rw [cut_cons] at hx ⊢
    have hne := cut_ne q
    cases h : cut q with
    | nil => exact absurd h hne
    | cons a b =>
      rw [h] at ih hx
      by_cases hd : d = 62
      · simp only [hd, if_true] at hx ⊢
        simp only [List.length_cons, Nat.add_sub_cancel] at ih hx ⊢
        rw [List.getElem?_cons_succ] at hx
        rw [ih x hx]; rfl
      · simp only [if_neg hd, List.headD_cons, List.tail_cons] at hx ⊢
        cases b with
        | nil =>
          have : x = d :: a := by simp at hx; exact hx.symm
          subst this
          rw [ih a rfl]; rfl
        | cons b1 b2 =>
          simp only [List.length_cons, Nat.add_sub_cancel] at ih hx ⊢
          rw [List.getElem?_cons_succ] at hx
          rw [ih x (by rw [List.getElem?_cons_succ]; exact hx)]; rfl
theorem cut_len : ∀ q : List UInt8, (cut q).length ≤ q.length + 1
  | [] => by simp [cut]
  | d :: q => by
    have ih := cut_len q
    have hne := cut_ne q
    rw [cut_cons]
    cases h : cut q with
    | nil => exact absurd h hne
    | cons a b => rw [h] at ih; by_cases hd : d = 62 <;> simp [hd] at ih ⊢ <;> omega
theorem rsplit_spec (s : ByteArray) (h : Hp) : Meets kon 77 [.string s] h (SplitP s h) := by
  refine Meets.mk rfl (by kernel_rfl) Tryz.func77 rfl (congrArg Array.toList Tryz.results77) ?_
  rcases Bool.eq_false_or_eq_true (decide (s = (ByteArray.mk #[62]))) with e1 | e1
  · simp only [evr, nextP_norm, evd, evq, beq_self_eq_true, cond_true, cond_false, reduceIte, Nat.reduceEqDiff, Nat.reduceAdd, Int.reduceBNe, Int.reduceBEq, Int.reduceLT, Int.reduceLE, Int.reduceEq, typs, e1]
    obtain rfl := of_decide_eq_true e1
    exact .yes (Keep.refl _) split_root (.inl ⟨rfl, rfl⟩)
  rcases Bool.eq_false_or_eq_true ((s.size : Int) == 0) with e2 | e2
  · simp only [evr, nextP_norm, evd, evq, beq_self_eq_true, cond_true, cond_false, reduceIte, Nat.reduceEqDiff, Nat.reduceAdd, Int.reduceBNe, Int.reduceBEq, Int.reduceLT, Int.reduceLE, Int.reduceEq, typs, e1, e2]
    have : s.data.toList = [] := List.length_eq_zero_iff.1 (by rw [← size_eq]; have := beq_iff_eq.1 e2; omega)
    exact .no (Keep.refl _) (by unfold split; rw [this])
  rcases Bool.eq_false_or_eq_true (decide ((168 : Int) < s.size)) with e3 | e3
  · simp only [evr, nextP_norm, evd, evq, beq_self_eq_true, cond_true, cond_false, reduceIte, Nat.reduceEqDiff, Nat.reduceAdd, Int.reduceBNe, Int.reduceBEq, Int.reduceLT, Int.reduceLE, Int.reduceEq, typs, e1, e2, e3]
    exact .no (Keep.refl _) (split_long (by simp at e3; omega))
  have hz : s.size ≤ 168 := by simp at e3; omega
  have hs1 : 1 ≤ s.size := by have := beq_eq_false_iff_ne.1 e2; omega
  obtain ⟨c, l, hl, _, _⟩ := head_of hs1
  have hsz : s.size = l.length + 1 := by rw [size_eq, hl]; rfl
  have hx0 := ixAt (s := s) (i := 0) (by omega)
  have hb0 : byteAt s 0 = c := by unfold byteAt; rw [hl]; rfl
  rw [hb0, Int.natCast_zero] at hx0
  rcases Bool.eq_false_or_eq_true ((c.toNat : Int) != 62) with e4 | e4
  · simp only [evr, nextP_norm, evd, evq, beq_self_eq_true, cond_true, cond_false, reduceIte, Nat.reduceEqDiff, Nat.reduceAdd, Int.reduceBNe, Int.reduceBEq, Int.reduceLT, Int.reduceLE, Int.reduceEq, typs, e1, e2, e3, hx0, e4]
    refine .no (Keep.refl _) (split_head ?_)
    rw [hl]
    simp at e4 ⊢
    rintro rfl; exact e4 rfl
  have hc : c = 62 := by
    have : c.toNat = 62 := by simp at e4; omega
    exact UInt8.toNat_inj.1 this
  subst hc
  have hl0 : l ≠ [] := by
    rintro rfl
    exact absurd (ba_ext (a := s) (b := ByteArray.mk #[62]) hl) (of_decide_eq_false e1)
  simp only [evr, nextP_norm, evd, evq, beq_self_eq_true, cond_true, cond_false, reduceIte, Nat.reduceEqDiff, Nat.reduceAdd, Int.reduceBNe, Int.reduceBEq, Int.reduceLT, Int.reduceLE, Int.reduceEq, typs, e1, e2, e3, hx0, e4]
  let psAt : Nat → List ByteArray := fun i => if i = 0 then [] else (cut (l.take (i - 1))).map ofL
  have hplen : ∀ i, (psAt i).length ≤ i := fun i => by
    show (if i = 0 then [] else (cut (l.take (i - 1))).map ofL).length ≤ i
    split
    · simp
    · rw [List.length_map]; have := cut_len (l.take (i - 1)); have := List.length_take_le (i - 1) l; omega
  refine Wp_loop (fun k fr h' => ∃ (i : Nat) (v : Value), k = s.size - i ∧ i ≤ s.size ∧ fr.get 0 = some (.string s) ∧ fr.get 5 = some (.int .i64 i) ∧ fr.get 4 = some v ∧ StrGr h.next h' v (psAt i) ∧ Kept h.next h h')
    s.size ⟨0, .slice none 0 0, rfl, Nat.zero_le _, ?_, ?_, ?_, .inl ⟨rfl, rfl⟩, Kept.refl _ _⟩ ?_
  · simp only [evr, nextP_norm, evd, evq, beq_self_eq_true, cond_true, cond_false, reduceIte, Nat.reduceEqDiff, Nat.reduceAdd, Int.reduceBNe, Int.reduceBEq, Int.reduceLT, Int.reduceLE, Int.reduceEq, typs]
  · simp only [evr, nextP_norm, evd, evq, beq_self_eq_true, cond_true, cond_false, reduceIte, Nat.reduceEqDiff, Nat.reduceAdd, Int.reduceBNe, Int.reduceBEq, Int.reduceLT, Int.reduceLE, Int.reduceEq, typs]
    rfl
  · simp only [evr, nextP_norm, evd, evq, beq_self_eq_true, cond_true, cond_false, reduceIte, Nat.reduceEqDiff, Nat.reduceAdd, Int.reduceBNe, Int.reduceBEq, Int.reduceLT, Int.reduceLE, Int.reduceEq, typs]
  rintro k fr h' ⟨i, v, rfl, hi, g0, g5, g4, gr, kp⟩
  by_cases h3 : i < s.size
  · have e5 : decide ((i : Int) < s.size) = true := by simp; omega
    have hx := ixAt h3
    have hw := wrap64 (x := (i : Int) + 1) (by omega) (by omega)
    have hby := byteAt_get h3
    rw [hl] at hby
    rcases Bool.eq_false_or_eq_true (((byteAt s i).toNat : Int) == 62) with e6 | e6
    · have hb : byteAt s i = 62 := by
        have : (byteAt s i).toNat = 62 := by simp at e6; omega
        exact UInt8.toNat_inj.1 this
      have hnext : h'.next < (h'.push (.row [.string ByteArray.empty] 9 (.rw 0 []))).next := Nat.lt_succ_self _
      have hone : StrSl (h'.push (.row [.string ByteArray.empty] 9 (.rw 0 []))) (.slice (some ⟨h'.next, 0, none⟩) 1 2) [ByteArray.empty] :=
        .inr ⟨h'.next, 0, 1, 2, _, rfl, by omega, hnext, rowOf_rw (Hp.get_push_self _ _), rfl, rfl⟩
      obtain ⟨v2, h2, a1, a2, a3⟩ := app_str (gr.keep (Keep.push _ _)) (by have := kp.1; omega) hone (by simp) (by have := hplen i; simp; omega)
      simp only [evr, nextP_norm, evd, evq, beq_self_eq_true, cond_true, cond_false, reduceIte, Nat.reduceEqDiff, Nat.reduceAdd, Int.reduceBNe, Int.reduceBEq, Int.reduceLT, Int.reduceLE, Int.reduceEq, typs, g0, g5, g4, e5, hx, e6, a1, hw]
      refine ⟨s.size - (i + 1), by omega, i + 1, v2, rfl, by omega, rfl, rfl, ?_, ⟨Nat.le_trans (Nat.le_trans kp.1 (Nat.le_succ _)) a3.1, fun c hc => ?_⟩⟩
      · have : psAt (i + 1) = psAt i ++ [ByteArray.empty] := by
          show (if i + 1 = 0 then [] else (cut (l.take (i + 1 - 1))).map ofL) = (if i = 0 then [] else (cut (l.take (i - 1))).map ofL) ++ [ByteArray.empty]
          rw [if_neg (Nat.succ_ne_zero i), Nat.add_sub_cancel]
          by_cases hi0 : i = 0
          · subst hi0; rfl
          · obtain ⟨j, rfl⟩ : ∃ j, i = j + 1 := ⟨i - 1, by omega⟩
            rw [if_neg hi0, Nat.add_sub_cancel, List.take_add_one]
            rw [List.getElem?_cons_succ, hb] at hby
            rw [hby]
            simp only [Option.toList_some]
            rw [cut_snoc_stroke, List.map_append]; rfl
        rw [this]; exact a2
      · rw [a3.2 c hc, Hp.get_push_lt (by have := kp.1; omega), kp.2 c hc]
    · have hi0 : i ≠ 0 := by
        rintro rfl
        have : byteAt s 0 = 62 := hb0
        rw [this] at e6; exact absurd e6 (by decide)
      obtain ⟨j, rfl⟩ : ∃ j, i = j + 1 := ⟨i - 1, by omega⟩
      have hbc : byteAt s (j + 1) ≠ 62 := fun e => by rw [e] at e6; exact absurd e6 (by decide)
      have hps : psAt (j + 1) = (cut (l.take j)).map ofL := rfl
      have hne := cut_ne (l.take j)
      have hpos : 1 ≤ (psAt (j + 1)).length := by rw [hps, List.length_map]; cases h : cut (l.take j) <;> simp_all
      have hst : StrSl h' v (psAt (j + 1)) := gr.slAt
      have hlen := hst.len
      have hpl := hplen (j + 1)
      have hw2 : IntKind.i64.wrap (((psAt (j + 1)).length : Int) - 1) = (((psAt (j + 1)).length - 1 : Nat) : Int) := by rw [wrap64 (by omega) (by omega)]; omega
      obtain ⟨p, b1, b2, b3⟩ := gr.put (i := (psAt (j + 1)).length - 1) (by omega)
      have hsl := (L_sliceStr (C := kon) (t := 9) (by kernel_rfl)).2.1 s .i64 ((j + 1 : Nat) : Int) .i64 (((j + 1 : Nat) : Int) + 1) (by omega) (by omega) (by omega)
      rw [Int.toNat_natCast, show (((j + 1 : Nat) : Int) + 1).toNat = j + 2 by omega] at hsl
      generalize hx1 : (psAt (j + 1))[(psAt (j + 1)).length - 1] = x1 at b2
      obtain ⟨h2, c1, c2, c3⟩ := b3 (x1 ++ s.extract (j + 1) (j + 2))
      have hxc : (cut (l.take j))[(cut (l.take j)).length - 1]? = some x1.data.toList := by
        have e : (psAt (j + 1))[(psAt (j + 1)).length - 1]? = some x1 := by rw [← hx1]; exact List.getElem?_eq_getElem _
        rw [hps, List.length_map, List.getElem?_map] at e
        obtain ⟨y, y1, y2⟩ := Option.map_eq_some_iff.1 e
        rw [y1, ← y2]; rfl
      have hbj : l[j]? = some (byteAt s (j + 1)) := by rw [List.getElem?_cons_succ] at hby; exact hby
      have hex : (s.extract (j + 1) (j + 2)).data.toList = [byteAt s (j + 1)] := by
        rw [ByteArray.data_extract, Array.toList_extract, List.extract_eq_take_drop, hl, show j + 2 - (j + 1) = 1 by omega, List.drop_succ_cons]
        have : l.drop j = byteAt s (j + 1) :: l.drop (j + 1) := by
          have hj : j < l.length := (List.getElem?_eq_some_iff.1 hbj).1
          rw [List.drop_eq_getElem_cons hj]
          congr 1
          exact (List.getElem?_eq_some_iff.1 hbj).2
        rw [this]; rfl
      have hx1l : x1.size ≤ 168 := by
        have : ∀ (q : List UInt8) y, y ∈ cut q → y.length ≤ q.length := by
          intro q
          induction q with
          | nil => intro y hy; simp [cut] at hy; simp [hy]
          | cons d q ih =>
            intro y hy
            rw [cut_cons] at hy
            have hq := cut_ne q
            cases hcq : cut q with
            | nil => exact absurd hcq hq
            | cons a b =>
              rw [hcq] at hy ih
              by_cases hd : d = 62
              · simp only [hd, if_true, List.mem_cons] at hy
                rcases hy with rfl | hy
                · simp
                · have := ih y (by simpa using hy); simp; omega
              · simp only [if_neg hd, List.headD_cons, List.tail_cons, List.mem_cons] at hy
                rcases hy with rfl | hy
                · have := ih a (by simp); simp; omega
                · have := ih y (by simp [hy]); simp; omega
        have h4 := this _ _ (List.mem_of_getElem? hxc)
        rw [size_eq]; have := List.length_take_le j l; omega
      have hadd : (x1.size : Int) + (s.extract (j + 1) (j + 2)).size ≤ 9223372036854775807 := by rw [size_eq (s.extract _ _), hex]; simp; omega
      simp only [evr, nextP_norm, evd, evq, beq_self_eq_true, cond_true, cond_false, reduceIte, Nat.reduceEqDiff, Nat.reduceAdd, Int.reduceBNe, Int.reduceBEq, Int.reduceLT, Int.reduceLE, Int.reduceEq, typs, g0, g5, g4, e5, hx, e6]
      refine Eq.mpr (Wp_drawOrd (KR.mk (by kernel_rfl))) ?_
      simp only [evr, nextP_norm, evd, evq, beq_self_eq_true, cond_true, cond_false, reduceIte, Nat.reduceEqDiff, Nat.reduceAdd, Int.reduceBNe, Int.reduceBEq, Int.reduceLT, Int.reduceLE, Int.reduceEq, typs, g0, g5, g4, e5, hx, e6, hlen, hw2, hw, b1, b2, hsl, evBin_addS hadd, c1]
      refine ⟨s.size - (j + 1 + 1), by omega, j + 1 + 1, v, rfl, by omega, rfl, rfl, ?_, kp.trans c3⟩
      have : psAt (j + 1 + 1) = (psAt (j + 1)).set ((psAt (j + 1)).length - 1) (x1 ++ s.extract (j + 1) (j + 2)) := by
        rw [hps]
        show (cut (l.take (j + 1))).map ofL = _
        rw [List.take_add_one, hbj]
        simp only [Option.toList_some]
        rw [cut_snoc _ _ hbc _ hxc, List.map_set, List.length_map]
        congr 1
        apply ba_ext
        rw [ofL_data, ByteArray.data_append, Array.toList_append, hex]
      rw [this]; exact c2
  · have e5 : decide ((i : Int) < s.size) = false := by simp; omega
    have hie : i = s.size := by omega
    subst hie
    have hps : psAt s.size = (cut l).map ofL := by
      show (if s.size = 0 then [] else (cut (l.take (s.size - 1))).map ofL) = _
      rw [if_neg (by omega), List.take_of_length_le (by omega)]
    rw [hps] at gr
    have hst : StrSl h' v ((cut l).map ofL) := gr.slAt
    have hlen := hst.len
    have hsp := split_at hl hl0 hz
    have hk : Keep h h' := kp.keep
    rcases Bool.eq_false_or_eq_true (decide ((16 : Int) < (((cut l).map ofL).length : Int))) with e6 | e6
    · simp only [evr, nextP_norm, evd, evq, beq_self_eq_true, cond_true, cond_false, reduceIte, Nat.reduceEqDiff, Nat.reduceAdd, Int.reduceBNe, Int.reduceBEq, Int.reduceLT, Int.reduceLE, Int.reduceEq, typs, g0, g5, g4, e5, hlen, e6]
      exact .no hk (by rw [hsp, if_pos (by simp at e6; omega)])
    have h16 : ((cut l).map ofL).length ≤ 16 := by simp at e6 ⊢; omega
    rw [if_neg (by simp at h16; omega)] at hsp
    simp only [evr, nextP_norm, evd, evq, beq_self_eq_true, cond_true, cond_false, reduceIte, Nat.reduceEqDiff, Nat.reduceAdd, Int.reduceBNe, Int.reduceBEq, Int.reduceLT, Int.reduceLE, Int.reduceEq, typs, g0, g5, g4, e5, hlen, e6]
    generalize hqs : (cut l).map ofL = qs at *
    refine Wp_loop (fun k fr h2 => h2 = h' ∧ ∃ i : Nat, k = qs.length - i ∧ i ≤ qs.length ∧ fr.get 4 = some v ∧ fr.get 6 = some (.int .i64 i) ∧ (qs.take i).all mayN = true) qs.length ⟨rfl, 0, rfl, Nat.zero_le _, ?_, ?_, rfl⟩ ?_
    · simp only [evr, nextP_norm, evd, evq, beq_self_eq_true, cond_true, cond_false, reduceIte, Nat.reduceEqDiff, Nat.reduceAdd, Int.reduceBNe, Int.reduceBEq, Int.reduceLT, Int.reduceLE, Int.reduceEq, typs, g4]
    · simp only [evr, nextP_norm, evd, evq, beq_self_eq_true, cond_true, cond_false, reduceIte, Nat.reduceEqDiff, Nat.reduceAdd, Int.reduceBNe, Int.reduceBEq, Int.reduceLT, Int.reduceLE, Int.reduceEq, typs]
      rfl
    rintro k fr2 h2 ⟨rfl, i, rfl, hi2, g4, g6, hp⟩
    by_cases h5 : i < qs.length
    · have e7 : decide ((i : Int) < qs.length) = true := by simp; omega
      obtain ⟨x, hx⟩ : ∃ x, qs[i]? = some x := ⟨_, List.getElem?_eq_getElem h5⟩
      obtain ⟨p, ha, hld⟩ := hst.at hx
      cases hm : mayN x with
      | false =>
        simp only [evr, nextP_norm, evd, evq, beq_self_eq_true, cond_true, cond_false, reduceIte, Nat.reduceEqDiff, Nat.reduceAdd, Int.reduceBNe, Int.reduceBEq, Int.reduceLT, Int.reduceLE, Int.reduceEq, typs, g4, g6, e7, hlen, ha, hld, (nameMay_spec x h2).call, hm]
        refine .no hk ?_
        rw [hsp, if_neg]
        intro hall
        rw [List.all_eq_true] at hall
        have := hall x (List.mem_of_getElem? hx)
        rw [hm] at this; cases this
      | true =>
        simp only [evr, nextP_norm, evd, evq, beq_self_eq_true, cond_true, cond_false, reduceIte, Nat.reduceEqDiff, Nat.reduceAdd, Int.reduceBNe, Int.reduceBEq, Int.reduceLT, Int.reduceLE, Int.reduceEq, typs, g4, g6, e7, hlen, ha, hld, (nameMay_spec x h2).call, hm, wrap64 (x := (i : Int) + 1) (by omega) (by omega)]
        refine ⟨qs.length - (i + 1), by omega, i + 1, rfl, by omega, rfl, ?_⟩
        rw [List.take_add_one, hx, List.all_append, hp]
        simp [hm]
    · have e7 : decide ((i : Int) < qs.length) = false := by simp; omega
      simp only [evr, nextP_norm, evd, evq, beq_self_eq_true, cond_true, cond_false, reduceIte, Nat.reduceEqDiff, Nat.reduceAdd, Int.reduceBNe, Int.reduceBEq, Int.reduceLT, Int.reduceLE, Int.reduceEq, typs, g4, g6, e7, hlen]
      rw [List.take_of_length_le (by omega)] at hp
      exact .yes hk (by rw [hsp, if_pos hp]) gr
end Go.Proofs.YtncmgiddcefpcaaGreatDoor
