/- The tree in the heap, as the model's hierarchy: Name, Access, Ringed. -/
import Derived.Test.YtncmgiddcefpcaaGreatDoorConP
namespace Go.Proofs.YtncmgiddcefpcaaGreatDoor
open Go Go.Ev Go.Con
set_option linter.unusedSimpArgs false
set_option linter.unusedVariables false
set_option maxRecDepth 100000
section
variable {h : Hp} {F : Nat → Prop} {T : Hi} {bt bl bd bu : Nat} {nb : List Nat}
theorem nb_inj {nb : List Nat} (nd : nb.Nodup) {i j n : Nat} (h1 : nb[i]? = some n) (h2 : nb[j]? = some n) : i = j := by
  exact (List.getElem?_inj (List.getElem?_eq_some_iff.1 h1).1 nd).1 (h1.trans h2.symm)
theorem TreeB.named (t : TreeB h F T bt bl bd bu nb) {d : Int} {s m : ByteArray} {i n : Nat} (hg : T.getF (d, s) = some i) (hm : T.getF (d, m) = none) (hn : nb[i]? = some n) {h' : Hp} {x : Nd} {sl : Value}
    (hx : h.get n = some (.row (ndC x sl) 110 (.rw 0 []))) (hx2 : x = ⟨T.br i, d, T.many i⟩) (hsl : TmTy h F sl (T.br i).acl)
    (c : CoreAt h' bt bl bd bu (upd (fun k => nodeF nb (T.getF k)) (d, m) (some n)) (upd T.dirF d (some ((T.dirF d).getD 0 + 1))) (fun u => nodeF nb (T.seg u)) ((T.D.length : Int) - 1))
    (hy : h'.get n = some (.row (ndC { x with many := x.many + 1 } sl) 110 (.rw 0 []))) (hnx : h'.next = h.next) (hs : ∀ k, k ≠ bl → k ≠ bd → k ≠ n → h'.get k = h.get k) : TreeB h' F (T.named d m i) bt bl bd bu nb := by
  obtain ⟨ok', seg'⟩ := t.ok.named hg hm
  obtain ⟨e0, he0, hk0, hi0⟩ := Hi.get_some hg
  have hd0 : e0.dir = d := congrArg Prod.fst hk0
  have hd : T.is d = true := hd0 ▸ t.ok.dirs e0 he0
  have hFn : F n := t.nF n (List.mem_of_getElem? hn)
  have hnlt := t.lt n hFn
  have sm : Same 65 h h' := ⟨Nat.le_of_eq hnx.symm, fun b all st hb hgb => by
    obtain ⟨e1, e2, e3⟩ := t.core.row_ne hgb
    rw [hs b e1 e2 (get_ne hgb hx (fun e => by simp at e))]; exact hgb⟩
  have hmany : ∀ j, (T.named d m i).many j = T.many j + if i = j then 1 else 0 := fun j => Hi.many_snoc (e := ⟨d, i, m⟩) T.B T.D j
  refine ⟨t.len, ?_, fun e he => ?_, t.nd, t.nF, t.own, fun k hk => by rw [hnx]; exact t.lt k hk, ok', t.acl⟩
  · have eL : (fun k => nodeF nb ((T.named d m i).getF k)) = upd (fun k => nodeF nb (T.getF k)) (d, m) (some n) := by
      have e1 : (T.named d m i).getF = _ := Hi.getF_snoc (B := T.B) (L := T.L) (D := T.D) (e := ⟨d, i, m⟩) T.B T.D hm
      rw [e1]
      funext k
      by_cases hk : k = (d, m)
      · subst hk
        show nodeF nb (upd _ (d, m) _ (d, m)) = _
        rw [upd_self, upd_self]; exact hn
      · show nodeF nb (upd _ (d, m) _ k) = _
        rw [upd_ne _ _ hk, upd_ne _ _ hk]
    have cnt : ∀ d', (T.named d m i).count d' = T.count d' + if d = d' then 1 else 0 := fun d' => Hi.count_snoc (e := ⟨d, i, m⟩) T.B T.D d'
    have c0 : (T.dirF d).getD 0 = T.count d := by unfold Hi.dirF; rw [if_pos hd]; rfl
    have eD : (T.named d m i).dirF = upd T.dirF d (some ((T.dirF d).getD 0 + 1)) := by
      rw [c0]
      funext d'
      show (if T.is d' = true then some ((T.named d m i).count d' : Int) else none) = _
      rw [cnt]
      by_cases e2 : d' = d
      · subst e2
        rw [upd_self, if_pos hd, if_pos rfl]; simp
      · rw [upd_ne _ _ e2, if_neg (Ne.symm e2), Nat.add_zero]; rfl
    rw [eL, eD, seg']
    exact c
  · have he' : e ∈ T.L ∨ e = ⟨d, i, m⟩ := by simpa [Hi.named] using he
    have hat : ∃ e1 ∈ T.L, e1.id = e.id ∧ e1.dir = e.dir := by
      rcases he' with he | rfl
      · exact ⟨e, he, rfl, rfl⟩
      · exact ⟨e0, he0, hi0, hd0⟩
    obtain ⟨e1, he1, hid, hdir⟩ := hat
    obtain ⟨n', h1, h2, sl', h3, h4, h5⟩ := t.node e1 he1
    rw [hid, hdir] at h4
    rw [hid] at h1 h5
    refine ⟨n', h1, h2, ?_⟩
    by_cases hii : e.id = i
    · have hnn : n' = n := by rw [hii, hn] at h1; exact (Option.some.inj h1).symm
      subst hnn
      refine ⟨sl, by omega, ?_, ?_⟩
      · rw [hy, hx2, hmany, hii, if_pos rfl]
        have hdd : e.dir = d := by
          rw [← hdir, ← hd0]
          exact t.ok.homes e1 he1 e0 he0 (by rw [hid, hii, hi0])
        rw [hdd]; rfl
      · rw [hii]; exact hsl.same sm fun _ hk => hk
    · have hne : n' ≠ n := fun e' => hii (nb_inj t.nd (e' ▸ h1) hn)
      have hr := t.core.row_ne h4
      refine ⟨sl', by omega, ?_, h5.same sm fun _ hk => hk⟩
      rw [hs n' hr.1 hr.2.1 hne, hmany, if_neg (Ne.symm hii)]
      exact h4
theorem tName_spec (t : TreeAt h F T bt) (hL : T.L.length ≤ 1000000000000) (d : Int) (s m : ByteArray) :
    Meets kon 44 [ptrV bt, .int .i64 d, .string s, .string m] h fun v h' => v = .int .i64 (T.name d s m).2 ∧ ∃ F', TreeAt h' F' (T.name d s m).1 bt ∧ Upd h F h' F' := by
  obtain ⟨bl, bd, bu, nb, t⟩ := t
  have g1 := (get_spec t.core d s).call
  have g2 := (get_spec t.core d m).call
  have g3 := (none_spec bt h).call
  have g4 := (may_spec m h).call
  have hcnt : 0 ≤ (T.dirF d).getD 0 ∧ (T.dirF d).getD 0 ≤ 1000000000000 := by
    have := Hi.count_le T d
    unfold Hi.dirF
    split
    · simp; omega
    · simp
  have stay : ∀ {T' : Hi}, T' = T → ∃ F', TreeAt h F' T' bt ∧ Upd h F h F' := fun e => by
    subst e; exact ⟨F, ⟨bl, bd, bu, nb, t⟩, Nat.le_refl _, fun _ _ _ => rfl, fun _ hk => .inl hk⟩
  refine Meets.mk rfl (by kernel_rfl) Tryz.func44 rfl (congrArg Array.toList Tryz.results44) ?_
  cases hg : T.getF (d, s) with
  | none =>
    rw [hg] at g1
    unfold nodeF Option.bind optP at g1
    repeat' (first | simp only [evr, nextP_norm, evd, evq, beq_self_eq_true, cond_true, cond_false, reduceIte, Nat.reduceEqDiff, Nat.reduceAdd, Int.reduceBNe, Int.reduceBEq, Int.reduceLT, Int.reduceLE, Int.reduceEq, evh, evp, Nat.reduceLeDiff, Nat.reduceSub, Nat.reduceBEq, typs, g1, g3] | refine kCond2_by (fun hc => ?_) (fun hc => ?_) <;> try simp only [hc] | refine kPick_by (fun hc => ?_) (fun hc => ?_) <;> try simp only [hc] | refine kWant_by (fun hc => ?_) (fun hc => ?_) <;> try simp only [hc])
    exact ⟨by simp [Hi.name, Hi.get, hg], stay (by simp [Hi.name, Hi.get, hg])⟩
  | some i =>
    obtain ⟨e0, he0, hk0, hi0⟩ := Hi.get_some hg
    obtain ⟨n, hn, hFn, sl, hlt, hrow, hsl⟩ := t.node e0 he0
    rw [hi0] at hn hrow hsl
    have hd0 : e0.dir = d := congrArg Prod.fst hk0
    have e1 : nodeF nb (some i) = some n := hn
    rw [hg, e1] at g1
    unfold optP ptrV at g1
    unfold ptrV
    cases hm : mayN m with
    | false =>
      rw [hm] at g4
      repeat' (first | simp only [evr, nextP_norm, evd, evq, beq_self_eq_true, cond_true, cond_false, reduceIte, Nat.reduceEqDiff, Nat.reduceAdd, Int.reduceBNe, Int.reduceBEq, Int.reduceLT, Int.reduceLE, Int.reduceEq, evh, evp, Nat.reduceLeDiff, Nat.reduceSub, Nat.reduceBEq, typs, g1, g4] | refine kCond2_by (fun hc => ?_) (fun hc => ?_) <;> try simp only [hc] | refine kPick_by (fun hc => ?_) (fun hc => ?_) <;> try simp only [hc] | refine kWant_by (fun hc => ?_) (fun hc => ?_) <;> try simp only [hc])
      exact ⟨by simp [Hi.name, Hi.get, hg, hm], stay (by simp [Hi.name, Hi.get, hg, hm])⟩
    | true =>
      rw [hm] at g4
      cases hg2 : T.getF (d, m) with
      | some j =>
        have hj := t.getlt _ j hg2
        have e2 : nodeF nb (some j) = some nb[j] := List.getElem?_eq_getElem hj
        rw [hg2, e2] at g2
        unfold optP ptrV at g2
        repeat' (first | simp only [evr, nextP_norm, evd, evq, beq_self_eq_true, cond_true, cond_false, reduceIte, Nat.reduceEqDiff, Nat.reduceAdd, Int.reduceBNe, Int.reduceBEq, Int.reduceLT, Int.reduceLE, Int.reduceEq, evh, evp, Nat.reduceLeDiff, Nat.reduceSub, Nat.reduceBEq, typs, g1, g4, g2] | refine kCond2_by (fun hc => ?_) (fun hc => ?_) <;> try simp only [hc] | refine kPick_by (fun hc => ?_) (fun hc => ?_) <;> try simp only [hc] | refine kWant_by (fun hc => ?_) (fun hc => ?_) <;> try simp only [hc])
        exact ⟨by simp [Hi.name, Hi.get, hg, hm, hg2], stay (by simp [Hi.name, Hi.get, hg, hm, hg2])⟩
      | none =>
        rw [hg2] at g2
        have e2 : nodeF nb none = none := rfl
        rw [e2] at g2
        unfold optP ptrV at g2
        repeat' (first | simp only [evr, nextP_norm, evd, evq, beq_self_eq_true, cond_true, cond_false, reduceIte, Nat.reduceEqDiff, Nat.reduceAdd, Int.reduceBNe, Int.reduceBEq, Int.reduceLT, Int.reduceLE, Int.reduceEq, evh, evp, Nat.reduceLeDiff, Nat.reduceSub, Nat.reduceBEq, typs, g1, g4, g2] | refine kCond2_by (fun hc => ?_) (fun hc => ?_) <;> try simp only [hc] | refine kPick_by (fun hc => ?_) (fun hc => ?_) <;> try simp only [hc] | refine kWant_by (fun hc => ?_) (fun hc => ?_) <;> try simp only [hc])
        have hmn := Hi.many_le T i
        refine callP_meets (put_spec t.core hrow d m (by omega) (by omega) (show -4000000000000000000 ≤ ((T.many i : Nat) : Int) by omega) (show ((T.many i : Nat) : Int) ≤ 4000000000000000000 by omega)) ?_
        rintro _ h' ⟨rfl, c', hy, hnx, hs'⟩
        repeat' (first | simp only [evr, nextP_norm, evd, evq, beq_self_eq_true, cond_true, cond_false, reduceIte, Nat.reduceEqDiff, Nat.reduceAdd, Int.reduceBNe, Int.reduceBEq, Int.reduceLT, Int.reduceLE, Int.reduceEq, evh, evp, Nat.reduceLeDiff, Nat.reduceSub, Nat.reduceBEq, typs] | refine kCond2_by (fun hc => ?_) (fun hc => ?_) <;> try simp only [hc] | refine kPick_by (fun hc => ?_) (fun hc => ?_) <;> try simp only [hc] | refine kWant_by (fun hc => ?_) (fun hc => ?_) <;> try simp only [hc])
        have hname : T.name d s m = (T.named d m i, 0) := by simp [Hi.name, Hi.get, hg, hm, hg2]
        rw [hname]
        refine ⟨rfl, F, ⟨bl, bd, bu, nb, t.named hg hg2 hn hrow (by rw [hd0]) hsl c' hy hnx hs'⟩, Nat.le_of_eq hnx.symm, fun k _ hk => ?_, fun k hk => .inl hk⟩
        exact hs' k (fun e => hk (e ▸ t.own.2.1)) (fun e => hk (e ▸ t.own.2.2.1)) (fun e => hk (e ▸ hFn))
theorem br_setB (T : Hi) (i : Nat) (b : Bn) (j : Nat) : (T.setB i b).br j = if j = i ∧ i < T.B.length then b else T.br j := by
  unfold Hi.setB Hi.br
  by_cases hj : j = i
  · subst hj
    by_cases hl : j < T.B.length
    · rw [if_pos ⟨rfl, hl⟩]; simp [hl]
    · rw [if_neg (fun h => hl h.2)]; simp [hl]
  · rw [if_neg (fun h => hj h.1)]
    simp only [List.getElem?_set_ne (Ne.symm hj)]
theorem TreeB.setB (t : TreeB h F T bt bl bd bu nb) {d : Int} {s : ByteArray} {i : Nat} (hg : T.getF (d, s) = some i) {b' : Bn} {h' : Hp} (ch : Chd h (nodeF nb (some i)) (T.br i) b' h')
    (hk : b'.kind = (T.br i).kind) (hu : b'.uid = (T.br i).uid) (hdr : b'.dir = (T.br i).dir) (hl : b'.acl.length ≤ 1000000000) :
    TreeB h' (fun k => F k ∨ h.next ≤ k ∧ k < h'.next) (T.setB i b') bt bl bd bu nb ∧ ∀ k, k < h.next → ¬ F k → h'.get k = h.get k := by
  obtain ⟨n, x, sl, sl', hn, hrow, hnlt, hxb, hrow', hsl', hnx, hs⟩ := ch
  obtain ⟨ok', seg'⟩ := t.ok.setB hk hu hdr
  obtain ⟨e0, he0, hk0, hi0⟩ := Hi.get_some hg
  have hid := t.ok.ids e0 he0
  obtain ⟨n0, hn0, hF0, sl0, hlt0, hr0, hs0⟩ := t.node e0 he0
  rw [hi0] at hn0 hr0 hs0 hid
  have hnn : n0 = n := by
    have h1 : nb[i]? = some n := hn
    rw [hn0] at h1; exact Option.some.inj h1
  subst hnn
  rw [hrow] at hr0
  simp only [ndC, Option.some.injEq, Ob.row.injEq, List.cons.injEq, Value.int.injEq, true_and, and_true] at hr0
  have ne := t.core.row_ne hrow
  have nt := t.core.node_ne hrow
  have c := t.core
  have o := t.own
  have sm : Same 65 h h' := Same.one (b := n0) (by rw [hrow]; exact (by decide : 110 ≠ 65)) hnx fun j hj hj2 => hs j hj hj2
  refine ⟨⟨by rw [t.len]; simp [Hi.setB], ?_, fun e he => ?_, t.nd, fun m hm => .inl (t.nF m hm), ⟨.inl o.1, .inl o.2.1, .inl o.2.2.1, .inl o.2.2.2⟩, fun k hk => ?_, ok', fun j => ?_⟩, fun k h1 h2 => hs k h1 fun e => h2 (e ▸ hF0)⟩
  · have lt := t.ltb
    show CoreAt h' bt bl bd bu (fun k => nodeF nb (T.getF k)) T.dirF (fun u => nodeF nb ((T.setB i b').seg u)) ((T.D.length : Int) - 1)
    rw [seg']
    exact ⟨by rw [hs bt lt.1 (Ne.symm nt)]; exact c.row, c.l.eq (hs bl lt.2.1 (Ne.symm ne.1)), c.d.eq (hs bd lt.2.2.1 (Ne.symm ne.2.1)), c.u.eq (hs bu lt.2.2.2 (Ne.symm ne.2.2)), c.ld, c.lu, c.du⟩
  · have he : e ∈ T.L := he
    obtain ⟨m, h1, h2, sl2, h3, h4, h5⟩ := t.node e he
    rw [br_setB]
    refine ⟨m, h1, .inl h2, ?_⟩
    by_cases hii : e.id = i
    · have hmn : m = n0 := by rw [hii, hn0] at h1; exact (Option.some.inj h1).symm
      subst hmn
      rw [if_pos ⟨hii, hid⟩]
      refine ⟨sl', Nat.lt_of_lt_of_le hlt0 hnx, ?_, ?_⟩
      · rw [hrow']
        have e1 : x.home = e.dir := by
          rw [t.ok.homes e he e0 he0 (hii.trans hi0.symm)]
          have := hr0; simp_all
        have e2 : x.many = (T.many e.id : Nat) := by rw [hii]; have := hr0; simp_all
        rw [e1, e2]; rfl
      · rcases hsl' with ⟨e1, e2⟩ | h6
        · have e3 : sl = sl0 := by have := hr0; simp_all
          rw [e1, e2, e3]
          exact hs0.same sm fun _ hk => .inl hk
        · rcases h6 with h6 | ⟨b, o, k, c, all, st, a1, a2, a3, a4, a5⟩
          · exact .inl h6
          · exact .inr ⟨b, o, k, c, all, st, a1, a2, .inr ⟨a3, a4⟩, a4, a5⟩
    · rw [if_neg (fun h => hii h.1)]
      have hmn : m ≠ n0 := fun e' => hii (nb_inj t.nd (e' ▸ h1) hn0)
      exact ⟨sl2, Nat.lt_of_lt_of_le h3 hnx, by rw [hs m h3 hmn]; exact h4, h5.same sm fun _ hk => .inl hk⟩
  · rcases hk with hk | hk
    · exact Nat.lt_of_lt_of_le (t.lt k hk) hnx
    · exact hk.2
  · rw [br_setB]
    split
    · exact hl
    · exact t.acl j
theorem Upd.of {h h' : Hp} {F : Nat → Prop} (hn : h.next ≤ h'.next) (hs : ∀ k, k < h.next → ¬ F k → h'.get k = h.get k) : Upd h F h' (fun k => F k ∨ h.next ≤ k ∧ k < h'.next) :=
  ⟨hn, hs, fun k hk => hk.imp id (·.1)⟩
theorem Upd.keep {h h' : Hp} {F : Nat → Prop} (k : Keep h h') : Upd h F h' F := ⟨k.1, fun j hj _ => k.2 j hj, fun _ hk => .inl hk⟩
theorem tAccess_spec (t : TreeAt h F T bt) (d : Int) (s : ByteArray) {v : Value} {l : List Tm} (hv : TmSl h v l) (hl : l.length ≤ 1000000000) :
    Meets kon 32 [ptrV bt, .int .i64 d, .string s, v] h fun u h' => u = .int .i64 (T.access d s l).2 ∧ ∃ F', TreeAt h' F' (T.access d s l).1 bt ∧ Upd h F h' F' := by
  obtain ⟨bl, bd, bu, nb, t⟩ := t
  refine (access_spec t.core d s (t.out_get d s) hv hl).mono ?_
  rintro u h' ⟨rfl, k1, k2⟩
  have stay : chE (listMay l) (T.look d s) ≠ 0 → (T.access d s l) = (T, chE (listMay l) (T.look d s)) → Value.int .i64 (chE (listMay l) (T.look d s)) = .int .i64 (T.access d s l).2 ∧ ∃ F', TreeAt h' F' (T.access d s l).1 bt ∧ Upd h F h' F' := fun e1 e2 => by
    rw [e2]
    exact ⟨rfl, F, ⟨bl, bd, bu, nb, t.keep (k1 e1).1 fun j hj => (k1 e1).2 j (t.lt j hj)⟩, Upd.keep (k1 e1)⟩
  unfold Hi.look Hi.get at stay k2
  unfold Hi.look Hi.get
  cases hg : T.getF (d, s) with
  | none =>
    rw [hg] at stay
    exact stay (by simp [chE]) (by simp [Hi.access, Hi.get, hg, chE])
  | some i =>
    rw [hg] at stay k2
    by_cases hk : (T.br i).kind = 1
    · cases hm : listMay l with
      | false =>
        rw [hm] at stay
        exact stay (by simp [chE, hk]) (by simp [Hi.access, Hi.get, hg, chE, hk, hm])
      | true =>
        rw [hm] at k2
        have e0 : chE true (some (T.br i)) = 0 := by simp [chE, hk]
        obtain ⟨t', hs⟩ := t.setB hg (k2 e0 _ rfl) rfl rfl rfl hl
        have ha : T.access d s l = (T.setB i { T.br i with acl := l }, 0) := by simp [Hi.access, Hi.get, hg, hk, hm]
        have hnx : h.next ≤ h'.next := by obtain ⟨_, _, _, _, _, _, _, _, _, _, hnx, _⟩ := k2 e0 _ rfl; exact hnx
        rw [ha]
        exact ⟨by show Value.int .i64 (chE true (some (T.br i))) = _; rw [e0], _, ⟨bl, bd, bu, nb, t'⟩, Upd.of hnx hs⟩
    · exact stay (by simp [chE, hk]) (by simp [Hi.access, Hi.get, hg, chE, hk])
theorem tRinged_spec (t : TreeAt h F T bt) (d : Int) (s : ByteArray) (b : Bk) :
    Meets kon 33 [ptrV bt, .int .i64 d, .string s, bkV b] h fun u h' => u = .int .i64 (T.ringed d s b).2 ∧ ∃ F', TreeAt h' F' (T.ringed d s b).1 bt ∧ Upd h F h' F' := by
  obtain ⟨bl, bd, bu, nb, t⟩ := t
  refine (ringed_spec t.core t.ltb d s (t.out_get d s) b).mono ?_
  rintro u h' ⟨rfl, k1, k2⟩
  have stay : chE (bkMay b) (T.look d s) ≠ 0 → (T.ringed d s b) = (T, chE (bkMay b) (T.look d s)) → Value.int .i64 (chE (bkMay b) (T.look d s)) = .int .i64 (T.ringed d s b).2 ∧ ∃ F', TreeAt h' F' (T.ringed d s b).1 bt ∧ Upd h F h' F' := fun e1 e2 => by
    rw [e2]
    exact ⟨rfl, F, ⟨bl, bd, bu, nb, t.keep (k1 e1).1 fun j hj => (k1 e1).2 j (t.lt j hj)⟩, Upd.keep (k1 e1)⟩
  unfold Hi.look Hi.get at stay k2
  unfold Hi.look Hi.get
  cases hg : T.getF (d, s) with
  | none =>
    rw [hg] at stay
    exact stay (by simp [chE]) (by simp [Hi.ringed, Hi.get, hg, chE])
  | some i =>
    rw [hg] at stay k2
    by_cases hk : (T.br i).kind = 1
    · cases hm : bkMay b with
      | false =>
        rw [hm] at stay
        exact stay (by simp [chE, hk]) (by simp [Hi.ringed, Hi.get, hg, chE, hk, hm])
      | true =>
        rw [hm] at k2
        have e0 : chE true (some (T.br i)) = 0 := by simp [chE, hk]
        obtain ⟨t', hs⟩ := t.setB hg (k2 e0 _ rfl) rfl rfl rfl (t.acl i)
        have ha : T.ringed d s b = (T.setB i { T.br i with b := b }, 0) := by simp [Hi.ringed, Hi.get, hg, hk, hm]
        have hnx : h.next ≤ h'.next := by obtain ⟨_, _, _, _, _, _, _, _, _, _, hnx, _⟩ := k2 e0 _ rfl; exact hnx
        rw [ha]
        exact ⟨by show Value.int .i64 (chE true (some (T.br i))) = _; rw [e0], _, ⟨bl, bd, bu, nb, t'⟩, Upd.of hnx hs⟩
    · exact stay (by simp [chE, hk]) (by simp [Hi.ringed, Hi.get, hg, chE, hk])
end
end Go.Proofs.YtncmgiddcefpcaaGreatDoor
