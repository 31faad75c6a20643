/- Texts joined: what the claim needs of them. No condition. -/
import Derived.Test.YtncmgiddcefpcaaDoorBin7
import Derived.Test.YtncmgiddcefpcaaDoorBin4
import Derived.Test.YtncmgiddcefpcaaDoorBin5
import Derived.Test.YtncmgiddcefpcaaDoorEvM3
import Derived.Test.YtncmgiddcefpcaaDoorProg
import Derived.Maps.RangeWalk
import Derived.Sort.OwnSorted
import Derived.WalkKit
import Derived.ProofKit
import Derived.OpenShut
import Derived.Maps.AppendAt
import Derived.Laws.Cover1
namespace Go.Proofs.YtncmgiddcefpcaaDoor
open Go Go.Ev Go.Con
set_option linter.unusedSimpArgs false
set_option linter.unusedVariables false
set_option maxRecDepth 100000
section
variable {h : Hp} {F : Nat → Prop} {T : Hi} {bt bl bd bu : Nat} {nb : List Nat}
theorem nb_inj {nb : List Nat} (nd : nb.Nodup) {i j n : Nat} (h1 : nb[i]? = some n) (h2 : nb[j]? = some n) : i = j := by
  exact (List.getElem?_inj (List.getElem?_eq_some_iff.1 h1).1 nd).1 (h1.trans h2.symm)
theorem TreeB.named (t : TreeB h F T bt bl bd bu nb) {d : Int} {s m : ByteArray} {i n : Nat} (hg : T.getF (d, s) = some i) (hm : T.getF (d, m) = none) (hn : nb[i]? = some n) {h' : Hp} {x : Nd} {sl : Value}
    (hx : h.get n = some (.row (ndC x sl) 126 (.rw 0 []))) (hx2 : x = ⟨T.br i, d, T.many i⟩) (hsl : TmTy h F sl (T.br i).acl)
    (c : CoreAt h' bt bl bd bu (upd (fun k => nodeF nb (T.getF k)) (d, m) (some n)) (upd T.dirF d (some ((T.dirF d).getD 0 + 1))) (fun u => nodeF nb (T.seg u)) ((T.D.length : Int) - 1))
    (hy : h'.get n = some (.row (ndC { x with many := x.many + 1 } sl) 126 (.rw 0 []))) (hnx : h'.next = h.next) (hs : ∀ k, k ≠ bl → k ≠ bd → k ≠ n → h'.get k = h.get k) : TreeB h' F (T.named d m i) bt bl bd bu nb := by
  obtain ⟨ok', seg'⟩ := t.ok.named hg hm
  obtain ⟨e0, he0, hk0, hi0⟩ := Hi.get_some hg
  have hd0 : e0.dir = d := congrArg Prod.fst hk0
  have hd : T.is d = true := hd0 ▸ t.ok.dirs e0 he0
  have hFn : F n := t.nF n (List.mem_of_getElem? hn)
  have hnlt := t.lt n hFn
  have sm : Same 64 h h' := ⟨Nat.le_of_eq hnx.symm, fun b all st hb hgb => by
    obtain ⟨e1, e2, e3⟩ := t.core.row_ne hgb
    rw [hs b e1 e2 (get_ne hgb hx (fun e => by simp at e))]; exact hgb⟩
  have hmany : ∀ j, (T.named d m i).many j = T.many j + if i = j then 1 else 0 := fun j => Hi.many_snoc (e := ⟨d, i, m⟩) T.B T.D j
  refine ⟨t.len, ?_, fun e he => ?_, t.nd, t.nF, t.own, fun k hk => by rw [hnx]; exact t.lt k hk, ok', t.acl⟩
  · have eL : (fun k => nodeF nb ((T.named d m i).getF k)) = upd (fun k => nodeF nb (T.getF k)) (d, m) (some n) := by
      have e1 : (T.named d m i).getF = _ := Hi.getF_snoc (B := T.B) (L := T.L) (D := T.D) (e := ⟨d, i, m⟩) T.B T.D hm
      rw [e1]
      funext k
      by_cases hk : k = (d, m)
      · subst hk
        show nodeF nb (upd _ (d, m) _ (d, m)) = _
        rw [upd_self, upd_self]; exact hn
      · show nodeF nb (upd _ (d, m) _ k) = _
        rw [upd_ne _ _ hk, upd_ne _ _ hk]
    have cnt : ∀ d', (T.named d m i).count d' = T.count d' + if d = d' then 1 else 0 := fun d' => Hi.count_snoc (e := ⟨d, i, m⟩) T.B T.D d'
    have c0 : (T.dirF d).getD 0 = T.count d := by unfold Hi.dirF; rw [if_pos hd]; rfl
    have eD : (T.named d m i).dirF = upd T.dirF d (some ((T.dirF d).getD 0 + 1)) := by
      rw [c0]
      funext d'
      show (if T.is d' = true then some ((T.named d m i).count d' : Int) else none) = _
      rw [cnt]
      by_cases e2 : d' = d
      · subst e2
        rw [upd_self, if_pos hd, if_pos rfl]; simp
      · rw [upd_ne _ _ e2, if_neg (Ne.symm e2), Nat.add_zero]; rfl
    rw [eL, eD, seg']
    exact c
  · have he' : e ∈ T.L ∨ e = ⟨d, i, m⟩ := by simpa [Hi.named] using he
    have hat : ∃ e1 ∈ T.L, e1.id = e.id ∧ e1.dir = e.dir := by
      rcases he' with he | rfl
      · exact ⟨e, he, rfl, rfl⟩
      · exact ⟨e0, he0, hi0, hd0⟩
    obtain ⟨e1, he1, hid, hdir⟩ := hat
    obtain ⟨n', h1, h2, sl', h3, h4, h5⟩ := t.node e1 he1
    rw [hid, hdir] at h4
    rw [hid] at h1 h5
    refine ⟨n', h1, h2, ?_⟩
    by_cases hii : e.id = i
    · have hnn : n' = n := by rw [hii, hn] at h1; exact (Option.some.inj h1).symm
      subst hnn
      refine ⟨sl, by omega, ?_, ?_⟩
      · rw [hy, hx2, hmany, hii, if_pos rfl]
        have hdd : e.dir = d := by
          rw [← hdir, ← hd0]
          exact t.ok.homes e1 he1 e0 he0 (by rw [hid, hii, hi0])
        rw [hdd]; rfl
      · rw [hii]; exact hsl.same sm fun _ hk => hk
    · have hne : n' ≠ n := fun e' => hii (nb_inj t.nd (e' ▸ h1) hn)
      have hr := t.core.row_ne h4
      refine ⟨sl', by omega, ?_, h5.same sm fun _ hk => hk⟩
      rw [hs n' hr.1 hr.2.1 hne, hmany, if_neg (Ne.symm hii)]
      exact h4
theorem br_setB (T : Hi) (i : Nat) (b : Bn) (j : Nat) : (T.setB i b).br j = if j = i ∧ i < T.B.length then b else T.br j := by
  unfold Hi.setB Hi.br
  by_cases hj : j = i
  · subst hj
    by_cases hl : j < T.B.length
    · rw [if_pos ⟨rfl, hl⟩]; simp [hl]
    · rw [if_neg (fun h => hl h.2)]; simp [hl]
  · rw [if_neg (fun h => hj h.1)]
    simp only [List.getElem?_set_ne (Ne.symm hj)]
theorem TreeB.setB (t : TreeB h F T bt bl bd bu nb) {d : Int} {s : ByteArray} {i : Nat} (hg : T.getF (d, s) = some i) {b' : Bn} {h' : Hp} (ch : Chd h (nodeF nb (some i)) (T.br i) b' h')
    (hk : b'.kind = (T.br i).kind) (hu : b'.uid = (T.br i).uid) (hdr : b'.dir = (T.br i).dir) (hl : b'.acl.length ≤ 1000000000) :
    TreeB h' (fun k => F k ∨ h.next ≤ k ∧ k < h'.next) (T.setB i b') bt bl bd bu nb ∧ ∀ k, k < h.next → ¬ F k → h'.get k = h.get k := by
  obtain ⟨n, x, sl, sl', hn, hrow, hnlt, hxb, hrow', hsl', hnx, hs⟩ := ch
  obtain ⟨ok', seg'⟩ := t.ok.setB hk hu hdr
  obtain ⟨e0, he0, hk0, hi0⟩ := Hi.get_some hg
  have hid := t.ok.ids e0 he0
  obtain ⟨n0, hn0, hF0, sl0, hlt0, hr0, hs0⟩ := t.node e0 he0
  rw [hi0] at hn0 hr0 hs0 hid
  have hnn : n0 = n := by
    have h1 : nb[i]? = some n := hn
    rw [hn0] at h1; exact Option.some.inj h1
  subst hnn
  rw [hrow] at hr0
  simp only [ndC, Option.some.injEq, Ob.row.injEq, List.cons.injEq, Value.int.injEq, true_and, and_true] at hr0
  have ne := t.core.row_ne hrow
  have nt := t.core.node_ne hrow
  have c := t.core
  have o := t.own
  have sm : Same 64 h h' := Same.one (b := n0) (by rw [hrow]; exact (by decide : 126 ≠ 64)) hnx fun j hj hj2 => hs j hj hj2
  refine ⟨⟨by rw [t.len]; simp [Hi.setB], ?_, fun e he => ?_, t.nd, fun m hm => .inl (t.nF m hm), ⟨.inl o.1, .inl o.2.1, .inl o.2.2.1, .inl o.2.2.2⟩, fun k hk => ?_, ok', fun j => ?_⟩, fun k h1 h2 => hs k h1 fun e => h2 (e ▸ hF0)⟩
  · have lt := t.ltb
    show CoreAt h' bt bl bd bu (fun k => nodeF nb (T.getF k)) T.dirF (fun u => nodeF nb ((T.setB i b').seg u)) ((T.D.length : Int) - 1)
    rw [seg']
    exact ⟨by rw [hs bt lt.1 (Ne.symm nt)]; exact c.row, c.l.eq (hs bl lt.2.1 (Ne.symm ne.1)), c.d.eq (hs bd lt.2.2.1 (Ne.symm ne.2.1)), c.u.eq (hs bu lt.2.2.2 (Ne.symm ne.2.2)), c.ld, c.lu, c.du⟩
  · have he : e ∈ T.L := he
    obtain ⟨m, h1, h2, sl2, h3, h4, h5⟩ := t.node e he
    rw [br_setB]
    refine ⟨m, h1, .inl h2, ?_⟩
    by_cases hii : e.id = i
    · have hmn : m = n0 := by rw [hii, hn0] at h1; exact (Option.some.inj h1).symm
      subst hmn
      rw [if_pos ⟨hii, hid⟩]
      refine ⟨sl', Nat.lt_of_lt_of_le hlt0 hnx, ?_, ?_⟩
      · rw [hrow']
        have e1 : x.home = e.dir := by
          rw [t.ok.homes e he e0 he0 (hii.trans hi0.symm)]
          have := hr0; simp_all
        have e2 : x.many = (T.many e.id : Nat) := by rw [hii]; have := hr0; simp_all
        rw [e1, e2]; rfl
      · rcases hsl' with ⟨e1, e2⟩ | h6
        · have e3 : sl = sl0 := by have := hr0; simp_all
          rw [e1, e2, e3]
          exact hs0.same sm fun _ hk => .inl hk
        · rcases h6 with h6 | ⟨b, o, k, c, all, st, a1, a2, a3, a4, a5⟩
          · exact .inl h6
          · exact .inr ⟨b, o, k, c, all, st, a1, a2, .inr ⟨a3, a4⟩, a4, a5⟩
    · rw [if_neg (fun h => hii h.1)]
      have hmn : m ≠ n0 := fun e' => hii (nb_inj t.nd (e' ▸ h1) hn0)
      exact ⟨sl2, Nat.lt_of_lt_of_le h3 hnx, by rw [hs m h3 hmn]; exact h4, h5.same sm fun _ hk => .inl hk⟩
  · rcases hk with hk | hk
    · exact Nat.lt_of_lt_of_le (t.lt k hk) hnx
    · exact hk.2
  · rw [br_setB]
    split
    · exact hl
    · exact t.acl j
theorem Upd.of {h h' : Hp} {F : Nat → Prop} (hn : h.next ≤ h'.next) (hs : ∀ k, k < h.next → ¬ F k → h'.get k = h.get k) : Upd h F h' (fun k => F k ∨ h.next ≤ k ∧ k < h'.next) :=
  ⟨hn, hs, fun k hk => hk.imp id (·.1)⟩
theorem Upd.keep {h h' : Hp} {F : Nat → Prop} (k : Keep h h') : Upd h F h' F := ⟨k.1, fun j hj _ => k.2 j hj, fun _ hk => .inl hk⟩
end
end Go.Proofs.YtncmgiddcefpcaaDoor
namespace Go.Proofs.YtncmgiddcefpcaaDoor
open Go Go.Ev Go.Con
set_option linter.unusedSimpArgs false
set_option linter.unusedVariables false
set_option maxRecDepth 100000
structure WG (h3 : Hp) (F2 : Nat → Prop) (h : Hp) (F G : Nat → Prop) (T : Hi) (bt : Nat) (v : Value) (e n : Nat) (cs : List Value) : Prop where
  t : TreeAt h F T bt
  g : Gr G h v e n cs
  u : Upd h3 F2 h fun k => F k ∨ G k
  dj : ∀ k, F k → ¬ G k
section
variable {h3 h h' : Hp} {F2 F F' G G' : Nat → Prop} {T T' : Hi} {bt : Nat} {v v' : Value} {e n : Nat} {cs cs' : List Value}
theorem TreeAt.ltF (t : TreeAt h F T bt) {k : Nat} (hk : F k) : k < h.next := by obtain ⟨_, _, _, _, t⟩ := t; exact t.lt k hk
theorem WG.keeps (x : WG h3 F2 h F G T bt v e n cs) (k : Keep h h') : WG h3 F2 h' F G T bt v e n cs :=
  ⟨x.t.keeps k, x.g.keeps k, ⟨Nat.le_trans x.u.next k.1, fun j h1 h2 => (k.2 j (Nat.lt_of_lt_of_le h1 x.u.next)).trans (x.u.same j h1 h2), x.u.own⟩, x.dj⟩
theorem WG.tree (x : WG h3 F2 h F G T bt v e n cs) (u : Upd h F h' F') (t : TreeAt h' F' T' bt) : WG h3 F2 h' F' G T' bt v e n cs := by
  refine ⟨t, x.g.keep u.next fun k hk => u.same k (x.g.lt hk) fun hf => x.dj k hf hk, ⟨Nat.le_trans x.u.next u.next, fun j h1 h2 => ?_, fun k hk => ?_⟩, fun k hf hg => ?_⟩
  · rw [u.same j (Nat.lt_of_lt_of_le h1 x.u.next) fun hf => ?_]
    · exact x.u.same j h1 h2
    · rcases x.u.own j (.inl hf) with h3 | h3
      · exact h2 h3
      · omega
  · rcases hk with hk | hk
    · rcases u.own k hk with h1 | h1
      · exact x.u.own k (.inl h1)
      · exact .inr (Nat.le_trans x.u.next h1)
    · exact x.u.own k (.inr hk)
  · rcases u.own k hf with h1 | h1
    · exact x.dj k h1 hg
    · have := x.g.lt hg; omega
end
end Go.Proofs.YtncmgiddcefpcaaDoor
namespace Go.Ev
open Go
set_option linter.unusedSimpArgs false
set_option linter.unusedVariables false
theorem Gr.mono {G G' : Nat → Prop} {h : Hp} {v : Value} {e n : Nat} {cs : List Value} (g : Gr G h v e n cs) (hs : ∀ k, G k → G' k) (hl : ∀ k, G' k → k < h.next) : Gr G' h v e n cs := by
  obtain ⟨_, g⟩ := g
  refine ⟨hl, ?_⟩
  rcases g with g | ⟨b, k, base, olds, x, h1, h2, h3, h4, h6, h7, h8, h9⟩
  · exact .inl g
  · exact .inr ⟨b, k, base, olds, x, h1, h2, h3, h4, h6, h7, hs b h8, fun o ho => hs o (h9 o ho)⟩
theorem write_gr {G : Nat → Prop} {h : Hp} {v : Value} {e n : Nat} {cs vs : List Value} (g : Gr G h v e n cs) {o : Nat} (ho : o + vs.length ≤ cs.length) (h1 : 1 ≤ vs.length) (hc : vs.all isCell = true) :
    ∃ b k c h', v = .slice (some ⟨b, 0, none⟩) k c ∧ k ≤ c / 2 ∧ cs.length = k * n ∧ G b ∧ writeAt h b o vs = some h' ∧ Gr G h' v e n (splice cs o vs) ∧ h'.next = h.next ∧ ∀ c, ¬ G c → h'.get c = h.get c := by
  obtain ⟨gl, g⟩ := g
  rcases g with ⟨_, rfl⟩ | ⟨b, k, base, olds, x, rfl, hx, hk, hk1, hg, hbase, hb0, holds⟩
  · have : vs = [] := by simp at ho; exact ho.2
    rw [this] at h1; simp at h1
  · by_cases hbo : base ≤ o
    · have key : writeAt h b o vs = some (h.set b (.row (splice cs o vs) e (.rw base olds))) := by
        unfold writeAt
        simp only [hg, decide_eq_true ho, hc, Bool.and_self, cond_true, decide_eq_true hbo]
      exact ⟨b, k, _, _, rfl, by omega, hk, hb0, key, ⟨gl, .inr ⟨b, k, base, olds, x, rfl, hx, by rw [splice_length ho]; exact hk, hk1, Hp.get_set_self _ _ _, by rw [splice_length ho]; exact hbase, hb0, holds⟩⟩, rfl,
        fun c hc => Hp.get_set_ne (by rintro rfl; exact hc hb0)⟩
    · have key : writeAt h b o vs = some ((kill h olds).set b (.row (splice cs o vs) e (.rw 0 []))) := by
        unfold writeAt
        simp only [hg, decide_eq_true ho, hc, Bool.and_self, cond_true, decide_eq_false hbo, cond_false]
      refine ⟨b, k, _, _, rfl, by omega, hk, hb0, key, ⟨fun j hj => ?_, .inr ⟨b, k, 0, [], x, rfl, hx, by rw [splice_length ho]; exact hk, hk1, Hp.get_set_self _ _ _, by rw [splice_length ho]; omega, hb0, by simp⟩⟩, ?_, fun c hc => ?_⟩
      · rw [Hp.next_set, kill_next]; exact gl j hj
      · rw [Hp.next_set, kill_next]
      · rw [Hp.get_set_ne (by rintro rfl; exact hc hb0), kill_get, if_neg (fun hm => hc (holds c hm))]
theorem Gr.row {G : Nat → Prop} {h : Hp} {v : Value} {e n : Nat} {cs : List Value} (g : Gr G h v e n cs) (hn : cs ≠ []) : ∃ b k c, v = .slice (some ⟨b, 0, none⟩) k c ∧ k ≤ c / 2 ∧ cs.length = k * n ∧ G b ∧ b < h.next ∧ rowOf h b = some cs := by
  obtain ⟨gl, g⟩ := g
  rcases g with ⟨_, rfl⟩ | ⟨b, k, base, olds, x, rfl, hx, hk, hk1, hg, hbase, hb0, holds⟩
  · exact absurd rfl hn
  · exact ⟨b, k, _, rfl, by omega, hk, hb0, gl b hb0, rowOf_rw hg⟩
theorem Gr.cell {G : Nat → Prop} {h : Hp} {v : Value} {e n : Nat} {cs : List Value} (g : Gr G h v e n cs) : isCell v = true ∧ v.cells = #[v] := by
  obtain ⟨_, ⟨rfl, _⟩ | ⟨b, k, base, olds, x, rfl, _⟩⟩ := g <;> exact ⟨rfl, rfl⟩
theorem part_get {cs : List Value} {a n k : Nat} : ((cs.drop a).take n)[k]? = if k < n then cs[a + k]? else none := by
  rw [List.getElem?_take]; split
  · rw [List.getElem?_drop]
  · rfl
theorem append_gr0 {P : Program} {t e n by_ : Nat} {z : Value} (h1 : tSliceElem P t = some e) (h2 : tSize P e = some n) (h3 : tBytes P e = some by_) (h4 : tZero P e = some z) (h5 : (flat z && Nat.beq z.cells.size n) = true) (hn : 1 ≤ n)
    {G : Nat → Prop} {h : Hp} {v x : Value} {cs new : List Value} (g : Gr G h v e n cs) {j : Nat} (hx : lenOf x = some j) (hc : evCells n j x h = some new) (hl : new.length = j * n)
    (hcell : new.all isCell = true) (hbig : (2 * (cs.length + j) + 1024) * (by_ + 1) ≤ 2 ^ 47) :
    ∃ v' h', evAppend P t v x h = some (v', h') ∧ Gr (fun k => G k ∨ (h.next ≤ k ∧ k < h'.next)) h' v' e n (cs ++ new) ∧ h.next ≤ h'.next ∧ h'.next ≤ h.next + 1 ∧ ∀ c, c < h.next → ¬ G c → h'.get c = h.get c := by
  by_cases hj : 1 ≤ j
  · obtain ⟨v', h', a, b, c, d⟩ := append_gr h1 h2 h3 h4 h5 hn g hx hc hj hl hcell hbig
    refine ⟨v', h', a, b.mono (fun k hk => ?_) fun k hk => ?_, by omega, by omega, d⟩
    · rcases hk with hk | hk
      · exact .inl hk
      · exact .inr (by omega)
    · rcases hk with hk | hk
      · exact Nat.lt_of_lt_of_le (g.lt hk) (by omega)
      · exact hk.2
  · have hj : j = 0 := by omega
    subst hj
    have hnew : new = [] := List.length_eq_zero_iff.1 (by omega)
    subst hnew
    refine ⟨v, h, ?_, ?_, Nat.le_refl _, Nat.le_succ _, fun _ _ _ => rfl⟩
    · simp only [Bool.and_eq_true] at h5
      have h6 : (z.cells.size == n) = true := by have := Nat.eq_of_beq_eq_true h5.2; simpa using this
      rcases g with ⟨gl, ⟨rfl, rfl⟩ | ⟨b, k, base, olds, y, rfl, hy, hk, hk1, hg, hbase, hb0, holds⟩⟩
      · unfold evAppend
        simp only [h1, h2, h3, h4, hx, Option.bind_some, h6, h5.1, Bool.and_self, Bool.not_true, cond_false, BEq.rfl, cond_true]
      · unfold evAppend
        simp only [h1, h2, h3, h4, hx, Option.bind_some, h6, h5.1, Bool.and_self, Bool.not_true, cond_false, BEq.rfl, cond_true]
    · rw [List.append_nil]
      refine g.mono (fun k hk => .inl hk) fun k hk => ?_
      rcases hk with hk | hk
      · exact g.lt hk
      · exact hk.2
def Fresh (h0 : Nat) (h : Hp) (v : Value) (e n : Nat) (cs : List Value) : Prop := ∃ G, Gr G h v e n cs ∧ ∀ k, G k → h0 ≤ k
theorem Fresh.nil (h0 : Nat) (h : Hp) (e n : Nat) : Fresh h0 h (.slice none 0 0) e n [] := ⟨_, Gr.nil h e n, fun _ hk => hk.elim⟩
theorem Fresh.slAt {h0 : Nat} {h : Hp} {v : Value} {e n : Nat} {cs : List Value} (g : Fresh h0 h v e n cs) : SlAt h n v cs := by obtain ⟨G, g, _⟩ := g; exact g.slAt
theorem Fresh.cell {h0 : Nat} {h : Hp} {v : Value} {e n : Nat} {cs : List Value} (g : Fresh h0 h v e n cs) : isCell v = true ∧ v.cells = #[v] := by obtain ⟨G, g, _⟩ := g; exact g.cell
theorem Fresh.keeps {h0 : Nat} {h h' : Hp} {v : Value} {e n : Nat} {cs : List Value} (g : Fresh h0 h v e n cs) (k : Keep h h') : Fresh h0 h' v e n cs := by obtain ⟨G, g, hG⟩ := g; exact ⟨G, g.keeps k, hG⟩
end Go.Ev
namespace Go.Proofs.YtncmgiddcefpcaaDoor
open Go Go.Ev Go.Con
set_option linter.unusedSimpArgs false
set_option linter.unusedVariables false
set_option maxRecDepth 100000
structure WD (h0 H : Hp) (c : Nat → Nat) (T : Hi) (bt : Nat) (S : List (Value × Nat × List Value)) : Prop where
  k : Keep h0 H
  new : ∀ b, c b ≠ 0 → h0.next ≤ b
  lt : ∀ b, c b ≠ 0 → b < H.next
  t : TreeAt H (fun b => c b = 1) T bt
  s : ∀ (i : Nat) (x : Value × Nat × List Value), S[i]? = some x → Gr (fun b => c b = i + 2) H x.1 x.2.1 1 x.2.2
section
variable {h0 H H' : Hp} {c : Nat → Nat} {T T' : Hi} {bt : Nat} {S : List (Value × Nat × List Value)}
theorem WD.keeps (w : WD h0 H c T bt S) (k : Keep H H') : WD h0 H' c T bt S :=
  ⟨w.k.trans k, w.new, fun b hb => Nat.lt_of_lt_of_le (w.lt b hb) k.1, w.t.keeps k, fun i x hx => (w.s i x hx).keeps k⟩
theorem WD.tree (w : WD h0 H c T bt S) {F' : Nat → Prop} (u : Upd H (fun b => c b = 1) H' F') (t : TreeAt H' F' T' bt) : ∃ c', WD h0 H' c' T' bt S ∧ ∀ b, b < H.next → c b = 0 → c' b = 0 ∧ H'.get b = H.get b := by
  classical
  refine ⟨fun b => if F' b then 1 else if c b = 1 then 0 else c b, ⟨⟨Nat.le_trans w.k.1 u.next, fun b hb => ?_⟩, fun b hb => ?_, fun b hb => ?_, ?_, fun i x hx => ?_⟩, fun b hb h0 => ⟨?_, u.same b hb (by omega)⟩⟩
  · rw [u.same b (Nat.lt_of_lt_of_le hb w.k.1) fun hc => by have := w.new b (by rw [hc]; decide); omega]
    exact w.k.2 b hb
  · have hb := hb
    by_cases hf : F' b
    · rcases u.own b hf with h1 | h1
      · exact w.new b (by rw [h1]; decide)
      · exact Nat.le_trans w.k.1 h1
    · rw [if_neg hf] at hb
      by_cases h1 : c b = 1
      · rw [if_pos h1] at hb; exact absurd rfl hb
      · rw [if_neg h1] at hb; exact w.new b hb
  · have hb := hb
    by_cases hf : F' b
    · exact t.ltF hf
    · rw [if_neg hf] at hb
      by_cases h1 : c b = 1
      · rw [if_pos h1] at hb; exact absurd rfl hb
      · rw [if_neg h1] at hb; exact Nat.lt_of_lt_of_le (w.lt b hb) u.next
  · have : (fun b => (if F' b then 1 else if c b = 1 then 0 else c b) = 1) = F' := by
      funext b
      by_cases hf : F' b
      · simp [hf]
      · by_cases h1 : c b = 1 <;> simp [hf, h1]
    rw [this]; exact t
  · have g := w.s i x hx
    have hnF : ∀ b, c b = i + 2 → ¬ F' b := fun b hb hf => by
      rcases u.own b hf with h1 | h1
      · omega
      · have := g.lt hb; omega
    refine (g.keep u.next fun b hb => u.same b (g.lt hb) (by omega)).mono (fun b hb => ?_) fun b hb => ?_
    · show (if F' b then 1 else if c b = 1 then 0 else c b) = i + 2
      rw [if_neg (hnF b hb), if_neg (by omega)]; exact hb
    · have hb : (if F' b then 1 else if c b = 1 then 0 else c b) = i + 2 := hb
      by_cases hf : F' b
      · rw [if_pos hf] at hb; omega
      · rw [if_neg hf] at hb
        by_cases h1 : c b = 1
        · rw [if_pos h1] at hb; omega
        · rw [if_neg h1] at hb; exact Nat.lt_of_lt_of_le (g.lt hb) u.next
  · show (if F' b then 1 else if c b = 1 then 0 else c b) = 0
    have : ¬ F' b := fun hf => by
      rcases u.own b hf with h1 | h1
      · have h1 : c b = 1 := h1
        omega
      · omega
    rw [if_neg this, if_neg (by omega)]; exact h0
theorem WD.slice (w : WD h0 H c T bt S) {i : Nat} {x x' : Value × Nat × List Value} (hx : S[i]? = some x) {G' : Nat → Prop} (g' : Gr G' H' x'.1 x'.2.1 1 x'.2.2) (hG : ∀ b, G' b → c b = i + 2 ∨ (H.next ≤ b ∧ b < H'.next)) (hn : H.next ≤ H'.next) (hs : ∀ b, b < H.next → c b ≠ i + 2 → H'.get b = H.get b) :
    ∃ c', WD h0 H' c' T bt (S.set i x') ∧ ∀ b, b < H.next → c b = 0 → c' b = 0 ∧ H'.get b = H.get b := by
  classical
  refine ⟨fun b => if c b = i + 2 ∨ (H.next ≤ b ∧ b < H'.next) then i + 2 else c b, ⟨⟨Nat.le_trans w.k.1 hn, fun b hb => ?_⟩, fun b hb => ?_, fun b hb => ?_, ?_, fun j y hy => ?_⟩, fun b hb h0 => ⟨by show (if _ then _ else _) = 0; rw [if_neg (by omega)]; exact h0, hs b hb (by omega)⟩⟩
  · rw [hs b (Nat.lt_of_lt_of_le hb w.k.1) fun hc => by have := w.new b (by rw [hc]; omega); omega]
    exact w.k.2 b hb
  · have hb := hb
    by_cases h1 : c b = i + 2 ∨ (H.next ≤ b ∧ b < H'.next)
    · rcases h1 with h1 | h1
      · exact w.new b (by rw [h1]; omega)
      · exact Nat.le_trans w.k.1 h1.1
    · rw [if_neg h1] at hb; exact w.new b hb
  · have hb := hb
    by_cases h1 : c b = i + 2 ∨ (H.next ≤ b ∧ b < H'.next)
    · rcases h1 with h1 | h1
      · exact Nat.lt_of_lt_of_le (w.lt b (by rw [h1]; omega)) hn
      · exact h1.2
    · rw [if_neg h1] at hb; exact Nat.lt_of_lt_of_le (w.lt b hb) hn
  · have : (fun b => (if c b = i + 2 ∨ (H.next ≤ b ∧ b < H'.next) then i + 2 else c b) = 1) = fun b => c b = 1 := by
      funext b
      by_cases h1 : c b = i + 2 ∨ (H.next ≤ b ∧ b < H'.next)
      · rw [if_pos h1]
        rw [eq_iff_iff]
        constructor
        · intro h; omega
        · intro h
          rcases h1 with h1 | h1
          · omega
          · have := w.lt b (by rw [h]; decide); omega
      · rw [if_neg h1]
    rw [this]
    exact w.t.keep hn fun b hb => hs b (w.lt b (by rw [hb]; decide)) (by omega)
  · by_cases hij : i = j
    · subst hij
      rw [List.getElem?_set, if_pos rfl, if_pos (List.getElem?_eq_some_iff.1 hx).1] at hy
      obtain rfl := Option.some.inj hy
      refine g'.mono (fun b hb => ?_) fun b hb => ?_
      · show (if _ then _ else _) = _
        rw [if_pos (hG b hb)]
      · have hb : (if c b = i + 2 ∨ (H.next ≤ b ∧ b < H'.next) then i + 2 else c b) = i + 2 := hb
        by_cases h1 : c b = i + 2 ∨ (H.next ≤ b ∧ b < H'.next)
        · rcases h1 with h1 | h1
          · exact Nat.lt_of_lt_of_le (w.lt b (by rw [h1]; omega)) hn
          · exact h1.2
        · rw [if_neg h1] at hb; exact absurd (.inl hb) h1
    · rw [List.getElem?_set, if_neg hij] at hy
      have g := w.s j y hy
      refine (g.keep hn fun b hb => hs b (g.lt hb) (by omega)).mono (fun b hb => ?_) fun b hb => ?_
      · show (if _ then _ else _) = _
        rw [if_neg]
        · exact hb
        · rintro (h | h)
          · omega
          · have := g.lt hb; omega
      · have hb : (if c b = i + 2 ∨ (H.next ≤ b ∧ b < H'.next) then i + 2 else c b) = j + 2 := hb
        by_cases h1 : c b = i + 2 ∨ (H.next ≤ b ∧ b < H'.next)
        · rw [if_pos h1] at hb; omega
        · rw [if_neg h1] at hb; exact Nat.lt_of_lt_of_le (g.lt hb) hn
end
structure Nm (H : Hp) (c : Nat → Nat) (v : Value) (ns : List ByteArray) : Prop where
  s : StrSl H v ns
  z : ∀ b o k cp, v = .slice (some ⟨b, o, none⟩) k cp → c b = 0
theorem Nm.keeps {H H' : Hp} {c : Nat → Nat} {v : Value} {ns : List ByteArray} (n : Nm H c v ns) (k : Keep H H') : Nm H' c v ns := ⟨SlAt.keep n.s k, n.z⟩
theorem Nm.step {H H' : Hp} {c c' : Nat → Nat} {v : Value} {ns : List ByteArray} (n : Nm H c v ns) (hn : H.next ≤ H'.next) (e : ∀ b, b < H.next → c b = 0 → c' b = 0 ∧ H'.get b = H.get b) : Nm H' c' v ns := by
  obtain ⟨s, z⟩ := n
  rcases s with ⟨rfl, hl⟩ | ⟨b, o, k, cp, all, rfl, h2, h3, h4, h5, h6⟩
  · exact ⟨.inl ⟨rfl, hl⟩, fun b o k cp e => by cases e⟩
  · have h0 := z b o k cp rfl
    refine ⟨.inr ⟨b, o, k, cp, all, rfl, h2, Nat.lt_of_lt_of_le h3 hn, ?_, h5, h6⟩, fun b' o' k' cp' e' => ?_⟩
    · unfold rowOf; rw [(e b h3 h0).2]; exact h4
    · cases e'; exact (e b h3 h0).1
theorem WD.start {h0 H : Hp} {F : Nat → Prop} {T : Hi} {bt : Nat} (k : Keep h0 H) (t : TreeAt H F T bt) (hF : ∀ b, F b → h0.next ≤ b) : ∃ c, WD h0 H c T bt [] ∧ ∀ b, c b = 0 ↔ ¬ F b := by
  classical
  have e : (fun b => (if F b then 1 else 0) = 1) = F := by funext b; by_cases hf : F b <;> simp [hf]
  refine ⟨fun b => if F b then 1 else 0, ⟨k, fun b hb => ?_, fun b hb => ?_, by rw [e]; exact t, fun i x hx => by simp at hx⟩, fun b => by by_cases hf : F b <;> simp [hf]⟩
  · by_cases hf : F b
    · exact hF b hf
    · simp [hf] at hb
  · by_cases hf : F b
    · exact t.ltF hf
    · simp [hf] at hb
theorem WD.add {h0 H : Hp} {c : Nat → Nat} {T : Hi} {bt : Nat} {S : List (Value × Nat × List Value)} (w : WD h0 H c T bt S) {G : Nat → Prop} {x : Value × Nat × List Value} (g : Gr G H x.1 x.2.1 1 x.2.2) (hG : ∀ b, G b → c b = 0 ∧ h0.next ≤ b) : ∃ c', WD h0 H c' T bt (S ++ [x]) ∧ ∀ b, c' b = 0 ↔ c b = 0 ∧ ¬ G b := by
  classical
  have e : (fun b => (if G b then S.length + 2 else c b) = 1) = fun b => c b = 1 := by
    funext b
    by_cases hg : G b
    · have := (hG b hg).1
      simp [hg, this]
    · simp [hg]
  have hlt : ∀ b, (if G b then S.length + 2 else c b) ≠ 0 → b < H.next := fun b hb => by
    by_cases hg : G b
    · exact g.lt hg
    · rw [if_neg hg] at hb; exact w.lt b hb
  refine ⟨fun b => if G b then S.length + 2 else c b, ⟨w.k, fun b hb => ?_, hlt, by rw [e]; exact w.t, fun i y hy => ?_⟩, fun b => ?_⟩
  · by_cases hg : G b
    · exact (hG b hg).2
    · have hb : (if G b then S.length + 2 else c b) ≠ 0 := hb
      rw [if_neg hg] at hb; exact w.new b hb
  · by_cases hi : i < S.length
    · rw [List.getElem?_append_left hi] at hy
      refine (w.s i y hy).mono (fun b hb => ?_) fun b hb => hlt b (by have hb : (if G b then S.length + 2 else c b) = i + 2 := hb; omega)
      show (if G b then S.length + 2 else c b) = i + 2
      rw [if_neg fun hg => by have := (hG b hg).1; omega]; exact hb
    · have hi2 : i = S.length := by have := (List.getElem?_eq_some_iff.1 hy).1; simp at this; omega
      subst hi2
      simp at hy
      subst hy
      refine g.mono (fun b hb => ?_) fun b hb => hlt b (by have hb : (if G b then S.length + 2 else c b) = S.length + 2 := hb; omega)
      show (if G b then S.length + 2 else c b) = _
      rw [if_pos hb]
  · by_cases hg : G b
    · simp [hg]
    · simp [hg]
theorem gr_one {H : Hp} {b e : Nat} {x : Value} (hb : H.get b = some (.row [x] e (.rw 0 []))) (hlt : b < H.next) : Gr (fun k => k = b) H (.slice (some ⟨b, 0, none⟩) 1 2) e 1 [x] :=
  ⟨fun k hk => by rw [hk]; exact hlt, .inr ⟨b, 1, 0, [], 0, rfl, by decide, rfl, Nat.le_refl _, hb, Nat.le_refl _, rfl, by simp⟩⟩
def zs (l : List Int) : List Value := l.map fun k => .int .i64 k
def bs (l : List Bool) : List Value := l.map .bool
theorem zs_len (l : List Int) : (zs l).length = l.length := by simp [zs]
theorem bs_len (l : List Bool) : (bs l).length = l.length := by simp [bs]
section
variable {G : Nat → Prop} {H : Hp} {v : Value}
theorem zs_at {l : List Int} (g : Gr G H v 3 1 (zs l)) {i : Nat} {x : Int} (hi : l[i]? = some x) : ∃ b, evIndexAddr kon.P 70 v (.int .i64 i) = some (.pointer (some ⟨b, i, none⟩)) ∧ G b ∧ rowOf H b = some (zs l) ∧ (zs l)[i]? = some (.int .i64 x) ∧
    ∀ y : Int, ∃ H', wrOb H b i [.int .i64 y] (H.get b) = some H' ∧ H'.next = H.next ∧ (∀ k, ¬ G k → H'.get k = H.get k) ∧ Gr G H' v 3 1 (zs (l.set i y)) := by
  have hlt : i < l.length := (List.getElem?_eq_some_iff.1 hi).1
  obtain ⟨b, k, cp, rfl, hc, hk, hG, hb, hr⟩ := g.row (by intro h; have := congrArg List.length h; rw [zs_len] at this; have : l.length = 0 := this; omega)
  rw [zs_len] at hk
  have hix := L_indexAddr (C := kon) (t := 70) (e := 3) (n := 1) (by kernel_rfl) (by kernel_rfl) b 0 k cp .i64 i (by omega) (by omega)
  refine ⟨b, by simpa using hix, hG, hr, by simp [zs, hi], fun y => ?_⟩
  obtain ⟨b', k', c', H', e, _, _, _, hw, g', hn, hs⟩ := write_gr g (o := i) (vs := [.int .i64 y]) (by rw [zs_len]; simp; omega) (by simp) rfl
  simp only [Value.slice.injEq, Option.some.injEq, Addr.mk.injEq] at e
  obtain ⟨⟨rfl, _⟩, _⟩ := e
  have : splice (zs l) i [.int .i64 y] = zs (l.set i y) := by
    simp only [splice, zs, List.length_singleton, List.map_set]
    rw [List.set_eq_take_append_cons_drop, if_pos (by simpa using hlt)]
    simp
  rw [this] at g'
  exact ⟨H', by rw [← writeAt_def]; exact hw, hn, hs, g'⟩
theorem bs_at {l : List Bool} (g : Gr G H v 4 1 (bs l)) {i : Nat} {x : Bool} (hi : l[i]? = some x) : ∃ b, evIndexAddr kon.P 101 v (.int .i64 i) = some (.pointer (some ⟨b, i, none⟩)) ∧ G b ∧ rowOf H b = some (bs l) ∧ (bs l)[i]? = some (.bool x) ∧
    ∀ y : Bool, ∃ H', wrOb H b i [.bool y] (H.get b) = some H' ∧ H'.next = H.next ∧ (∀ k, ¬ G k → H'.get k = H.get k) ∧ Gr G H' v 4 1 (bs (l.set i y)) := by
  have hlt : i < l.length := (List.getElem?_eq_some_iff.1 hi).1
  obtain ⟨b, k, cp, rfl, hc, hk, hG, hb, hr⟩ := g.row (by intro h; have := congrArg List.length h; rw [bs_len] at this; have : l.length = 0 := this; omega)
  rw [bs_len] at hk
  have hix := L_indexAddr (C := kon) (t := 101) (e := 4) (n := 1) (by kernel_rfl) (by kernel_rfl) b 0 k cp .i64 i (by omega) (by omega)
  refine ⟨b, by simpa using hix, hG, hr, by simp [bs, hi], fun y => ?_⟩
  obtain ⟨b', k', c', H', e, _, _, _, hw, g', hn, hs⟩ := write_gr g (o := i) (vs := [.bool y]) (by rw [bs_len]; simp; omega) (by simp) rfl
  simp only [Value.slice.injEq, Option.some.injEq, Addr.mk.injEq] at e
  obtain ⟨⟨rfl, _⟩, _⟩ := e
  have : splice (bs l) i [.bool y] = bs (l.set i y) := by
    simp only [splice, bs, List.length_singleton, List.map_set]
    rw [List.set_eq_take_append_cons_drop, if_pos (by simpa using hlt)]
    simp
  rw [this] at g'
  exact ⟨H', by rw [← writeAt_def]; exact hw, hn, hs, g'⟩
theorem zs_len_ev {l : List Int} (g : Gr G H v 3 1 (zs l)) : evLen kon.P 70 v = some (.int .i64 l.length) := by
  rcases g.slAt with ⟨rfl, hl⟩ | ⟨b, o, k, c, all, rfl, h2, h3, h4, h5, h6⟩
  · have : (zs l).length = 0 := by rw [hl]; rfl
    rw [zs_len] at this
    rw [this]; exact evLen_slice (e := 3) (by kernel_rfl)
  · rw [zs_len] at h5
    have : k = l.length := by omega
    subst this
    exact evLen_slice (e := 3) (by kernel_rfl)
theorem app_zs {l : List Int} (g : Gr G H v 3 1 (zs l)) (hl : l.length ≤ 1000000000) {b : Nat} {y : Int} (hb : rowOf H b = some [.int .i64 y]) : ∃ v' H', evAppend kon.P 70 v (.slice (some ⟨b, 0, none⟩) 1 2) H = some (v', H') ∧ Gr (fun k => G k ∨ (H.next ≤ k ∧ k < H'.next)) H' v' 3 1 (zs (l ++ [y])) ∧ H.next ≤ H'.next ∧ ∀ k, k < H.next → ¬ G k → H'.get k = H.get k := by
  have hc : evCells 1 1 (.slice (some ⟨b, 0, none⟩) 1 2) H = some [.int .i64 y] := by
    show (bif 1 * 1 == 0 then some [] else (rowOf _ b).bind fun cs => bif decide (0 + 1 * 1 ≤ cs.length) then some ((cs.drop 0).take (1 * 1)) else none) = _
    rw [hb]; rfl
  obtain ⟨v', H', a, b', c, _, d⟩ := append_gr0 (t := 70) (e := 3) (n := 1) (by_ := 8) (z := .int .i64 0) (P := kon.P) (by kernel_rfl) (by kernel_rfl) (by kernel_rfl) (by kernel_rfl) (by kernel_rfl) (Nat.le_refl _) g
    (x := .slice (some ⟨b, 0, none⟩) 1 2) (j := 1) rfl hc rfl rfl (by rw [zs_len]; exact Nat.le_trans (Nat.mul_le_mul_right 9 (show _ ≤ 2000001026 by omega)) (by decide))
  refine ⟨v', H', a, ?_, c, d⟩
  have : zs (l ++ [y]) = zs l ++ [.int .i64 y] := by simp [zs]
  rw [this]; exact b'
theorem app_bs {l : List Bool} (g : Gr G H v 4 1 (bs l)) (hl : l.length ≤ 1000000000) {b : Nat} {y : Bool} (hb : rowOf H b = some [.bool y]) : ∃ v' H', evAppend kon.P 101 v (.slice (some ⟨b, 0, none⟩) 1 2) H = some (v', H') ∧ Gr (fun k => G k ∨ (H.next ≤ k ∧ k < H'.next)) H' v' 4 1 (bs (l ++ [y])) ∧ H.next ≤ H'.next ∧ ∀ k, k < H.next → ¬ G k → H'.get k = H.get k := by
  have hc : evCells 1 1 (.slice (some ⟨b, 0, none⟩) 1 2) H = some [.bool y] := by
    show (bif 1 * 1 == 0 then some [] else (rowOf _ b).bind fun cs => bif decide (0 + 1 * 1 ≤ cs.length) then some ((cs.drop 0).take (1 * 1)) else none) = _
    rw [hb]; rfl
  obtain ⟨v', H', a, b', c, _, d⟩ := append_gr0 (t := 101) (e := 4) (n := 1) (by_ := 1) (z := .bool false) (P := kon.P) (by kernel_rfl) (by kernel_rfl) (by kernel_rfl) (by kernel_rfl) (by kernel_rfl) (Nat.le_refl _) g
    (x := .slice (some ⟨b, 0, none⟩) 1 2) (j := 1) rfl hc rfl rfl (by rw [bs_len]; exact Nat.le_trans (Nat.mul_le_mul_right 2 (show _ ≤ 2000001026 by omega)) (by decide))
  refine ⟨v', H', a, ?_, c, d⟩
  have : bs (l ++ [y]) = bs l ++ [.bool y] := by simp [bs]
  rw [this]; exact b'
end
end Go.Proofs.YtncmgiddcefpcaaDoor
namespace Go.Proofs.YtncmgiddcefpcaaDoor
open Go Go.Ev Go.Con
set_option linter.unusedSimpArgs false
set_option linter.unusedVariables false
set_option maxRecDepth 100000
structure TK (h1 h : Hp) (F : Nat → Prop) (T : Hi) (bt : Nat) : Prop where
  t : TreeAt h F T bt
  k : Keep h1 h
  f : ∀ j, F j → h1.next ≤ j
section
variable {h1 h h' : Hp} {F F' : Nat → Prop} {T T' : Hi} {bt : Nat}
theorem TK.keeps (x : TK h1 h F T bt) (k : Keep h h') : TK h1 h' F T bt := ⟨x.t.keeps k, x.k.trans k, x.f⟩
theorem TK.upd (x : TK h1 h F T bt) (u : Upd h F h' F') (t : TreeAt h' F' T' bt) : TK h1 h' F' T' bt := by
  refine ⟨t, ⟨Nat.le_trans x.k.1 u.next, fun j hj => ?_⟩, fun j hj => ?_⟩
  · rw [u.same j (Nat.lt_of_lt_of_le hj x.k.1) fun hf => by have := x.f j hf; omega]
    exact x.k.2 j hj
  · rcases u.own j hj with h2 | h2
    · exact x.f j h2
    · exact Nat.le_trans x.k.1 h2
end
end Go.Proofs.YtncmgiddcefpcaaDoor
namespace Go.Proofs.YtncmgiddcefpcaaDoor
open Go Go.Ev Go.Con
set_option linter.unusedSimpArgs false
set_option linter.unusedVariables false
set_option maxRecDepth 100000
theorem TmSl.user {h : Hp} {v : Value} {l : List Tm} (s : TmSl h v l) {i : Nat} {x : Tm} (hi : l[i]? = some x) : ∃ b o all, evIndexAddr kon.P 37 v (.int .i64 i) = some (.pointer (some ⟨b, o, none⟩)) ∧ b < h.next ∧
    rowOf h b = some all ∧ all[o]? = some (.string x.user) := by
  obtain ⟨b, o, all, h1, h2, h3, h4, h5⟩ := s.at hi
  refine ⟨b, o, all, h1, h2, h3, ?_⟩
  have := congrArg (fun c : List Value => c[0]?) h5
  simpa [tmC] using this
end Go.Proofs.YtncmgiddcefpcaaDoor
namespace Go.Proofs.YtncmgiddcefpcaaDoor
open Go Go.Ev Go.Con
set_option linter.unusedSimpArgs false
set_option linter.unusedVariables false
set_option maxRecDepth 100000
def sortedN (T : Hi) (d : Int) : List ByteArray := (sortB ((T.namesOf d).map fun s => s.data.toList)).map ofL
theorem look_mem {κ υ : Type} [DecidableEq κ] : ∀ {l : List (κ × υ)} {x : κ}, (mLook l x).isSome = true ↔ x ∈ l.map (·.1)
  | [], x => by simp [mLook]
  | (k, v) :: l, x => by
    simp only [mLook, List.map_cons, List.mem_cons]
    by_cases h : k = x
    · subst h; simp
    · rw [if_neg h, look_mem (l := l)]
      constructor
      · exact .inr
      · rintro (h2 | h2)
        · exact absurd h2.symm h
        · exact h2
theorem namesE_map (d : Int) : ∀ (es : List MapEntry) (ks : List (Int × ByteArray)), es.map (·.key) = ks.map keyK → namesE d es = some ((ks.filter fun k => decide (k.1 = d)).map fun k => k.2.data.toList)
  | [], [], _ => rfl
  | [], _ :: _, h => by simp at h
  | _ :: _, [], h => by simp at h
  | e :: es, k :: ks, h => by
    simp only [List.map_cons, List.cons.injEq] at h
    have ih := namesE_map d es ks h.2
    unfold namesE
    rw [h.1, ih]
    unfold keyK keyName
    by_cases hk : k.1 = d
    · simp [hk]
    · simp [hk]
section
variable {h : Hp} {F : Nat → Prop} {T : Hi} {bt bl bd bu : Nat} {nb : List Nat}
theorem TreeB.keys (t : TreeB h F T bt bl bd bu nb) : ∃ es ck, ∃ ks : List (Int × ByteArray), h.get bl = some (.map es ck) ∧ es.map (·.key) = ks.map keyK ∧ BornOK es ck ∧ ks.Perm (T.L.map En.key) := by
  obtain ⟨l, ⟨es, ck, h1, h2, h3, h4⟩, h5⟩ := t.core.l
  refine ⟨es, ck, l.map (·.1), h1, ?_, h3, ?_⟩
  · have := congrArg (List.map Prod.fst) h2
    simpa [List.map_map, Function.comp_def] using this
  · rw [List.perm_ext_iff_of_nodup h4 t.ok.keys]
    intro x
    rw [← look_mem, h5 x, nodeF_isSome (t.getlt x)]
    constructor
    · intro hs
      obtain ⟨i, hi⟩ := Option.isSome_iff_exists.1 hs
      obtain ⟨e, he, hk, _⟩ := Hi.get_some hi
      exact List.mem_map.2 ⟨e, he, hk⟩
    · intro hs
      obtain ⟨e, he, rfl⟩ := List.mem_map.1 hs
      rw [t.ok.get_of he]; rfl
theorem nodupB_of : ∀ {l : List Nat}, l.Nodup → nodupB l = true
  | [], _ => rfl
  | x :: l, h => by
    rw [List.nodup_cons] at h
    unfold nodupB
    rw [nodupB_of h.2, Bool.and_true, Bool.not_eq_true', List.any_eq_false]
    intro y hy e
    have : x = y := Nat.eq_of_beq_eq_true e
    exact h.1 (this ▸ hy)
theorem tNames_spec (t : TreeAt h F T bt) (hL : T.L.length ≤ 1000000000) (d : Int) :
    Meets kon 68 [ptrV bt, .int .i64 d] h fun v h' => Keep h h' ∧ SlTy h' (fun k => h.next ≤ k) 9 1 v (strs (sortedN T d)) := by
  obtain ⟨bl, bd, bu, nb, t⟩ := t
  obtain ⟨es, ck, ks, h1, h2, h3, h4⟩ := t.keys
  have hr := rowOf_rw t.core.row
  have hlen : es.length ≤ 1073741824 := by
    have e1 := congrArg List.length h2
    have e2 := h4.length_eq
    simp only [List.length_map] at e1 e2
    omega
  have hborn : bornB es ck = true := by
    unfold bornB
    rw [nodupB_of h3.1, Bool.true_and, List.all_eq_true]
    intro e he; exact decide_eq_true (h3.2 e he)
  have hn := namesE_map d es ks h2
  have hsort : sortB ((ks.filter fun k => decide (k.1 = d)).map fun k => k.2.data.toList) = sortB ((T.namesOf d).map fun s => s.data.toList) := by
    apply sortB_uniq ?_ (sortB_sorted _)
    refine (sortB_perm _).trans ?_
    have hp := (h4.filter fun k => decide (k.1 = d)).map fun k => k.2.data.toList
    refine hp.trans (List.Perm.of_eq ?_)
    unfold Hi.namesOf
    rw [List.filter_map, List.map_map, List.map_map]
    rfl
  have hs : sumNames 9 [ptrV bt, .int .i64 d] h = some (match sortB ((T.namesOf d).map fun s => s.data.toList) with
      | [] => (.slice none 0 0, h)
      | s :: ss => (.slice (some ⟨h.next, 0, none⟩) (ss.length + 1) (2 * (ss.length + 1) + 1), h.push (.row ((s :: ss).map encB) 9 (.rw 0 [])))) := by
    show ((rowOf h bt).bind _) = _
    rw [hr]
    simp only [Option.bind_some]
    rw [h1]
    simp only [hborn, hlen, decide_true, Bool.and_self, cond_true, hn, Option.map_some, hsort]
    cases sortB ((T.namesOf d).map fun s => s.data.toList) <;> rfl
  have henc : ∀ l : List (List UInt8), l.map encB = strs (l.map ofL) := fun l => by simp [strs, encB, ofL, Function.comp_def]
  unfold sortedN
  cases hb : sortB ((T.namesOf d).map fun s => s.data.toList) with
  | nil =>
    rw [hb] at hs
    exact ⟨_, _, Ret.sum (s := sumNames 9) rfl hs, Keep.refl _, .inl ⟨rfl, rfl⟩⟩
  | cons s ss =>
    rw [hb] at hs
    refine ⟨_, _, Ret.sum (s := sumNames 9) rfl hs, Keep.push _ _, .inr ⟨h.next, 0, ss.length + 1, 2 * (ss.length + 1) + 1, _, _, rfl, by omega, Nat.le_refl _, Nat.lt_succ_self _, Hp.get_push_self _ _, trivial, ?_, ?_⟩⟩
    · simp [strs]
    · rw [henc, List.drop_zero, List.take_of_length_le (by simp [strs])]
end
end Go.Proofs.YtncmgiddcefpcaaDoor
namespace Go.Proofs.YtncmgiddcefpcaaDoor
open Go Go.Ev Go.Con
set_option linter.unusedSimpArgs false
set_option linter.unusedVariables false
set_option maxRecDepth 100000
section
variable {h : Hp} {F : Nat → Prop} {T : Hi} {bt : Nat}
theorem tLen_spec (t : TreeAt h F T bt) (d : Int) : Meets kon 70 [ptrV bt, .int .i64 d] h fun v h' => v = .int .i64 (if T.is d = true then (T.count d : Int) else 0) ∧ h' = h := by
  obtain ⟨bl, bd, bu, nb, t⟩ := t
  have hr := rowOf_rw t.core.row
  have hl := t.core.lookD d false
  have : evLookup kon.P 116 (.map (some bd)) (.int .i64 d) false h = some (.int .i64 (if T.is d = true then (T.count d : Int) else 0)) := by
    rw [hl]; unfold Hi.dirF; cases T.is d <;> rfl
  unfold ptrV
  refine Meets.mk rfl (by kernel_rfl) Tryd.func70 rfl (congrArg Array.toList Tryd.results70) ?_
  simp only [evr, nextP_norm, evd, evq, beq_self_eq_true, cond_true, cond_false, reduceIte, Nat.reduceEqDiff, Nat.reduceAdd, Int.reduceBNe, Int.reduceBEq, Int.reduceLT, Int.reduceLE, Int.reduceEq, evh, evp, Nat.reduceLeDiff, Nat.reduceSub, Nat.reduceBEq, typs, hr, this]
end
end Go.Proofs.YtncmgiddcefpcaaDoor
namespace Go.Proofs.YtncmgiddcefpcaaDoor
open Go Go.Ev Go.Con
set_option linter.unusedSimpArgs false
set_option linter.unusedVariables false
set_option maxRecDepth 100000
structure TreeP (h : Hp) (F : Nat → Prop) (T U : Hi) (bt bl bd bu : Nat) (nb : List Nat) : Prop where
  len : nb.length = T.B.length
  core : CoreAt h bt bl bd bu (fun k => nodeF nb (U.getF k)) U.dirF (fun u => nodeF nb (T.seg u)) ((T.D.length : Int) - 1)
  node : ∀ e ∈ T.L, ∃ n, nb[e.id]? = some n ∧ F n ∧ NodeAt h F n ⟨T.br e.id, e.dir, U.many e.id⟩
  nd : nb.Nodup
  nF : ∀ n ∈ nb, F n
  own : F bt ∧ F bl ∧ F bd ∧ F bu
  lt : ∀ k, F k → k < h.next
  ok : T.Ok
  acl : ∀ i, (T.br i).acl.length ≤ 1000000000
  okU : U.Ok
  sub : ∀ e ∈ U.L, e ∈ T.L
  B : U.B = T.B
  D : U.D = T.D
section
variable {h : Hp} {F : Nat → Prop} {T U : Hi} {bt bl bd bu : Nat} {nb : List Nat}
theorem TreeB.part (t : TreeB h F T bt bl bd bu nb) : TreeP h F T T bt bl bd bu nb := ⟨t.len, t.core, t.node, t.nd, t.nF, t.own, t.lt, t.ok, t.acl, t.ok, fun _ h => h, rfl, rfl⟩
theorem TreeP.take (t : TreeP h F T U bt bl bd bu nb) {e : En} (he : e ∈ U.L) {n : Nat} (hn : nb[e.id]? = some n) {x : Nd} {sl : Value} (hx : h.get n = some (.row (ndC x sl) 126 (.rw 0 []))) {h' : Hp}
    (c : CoreAt h' bt bl bd bu (upd (fun k => nodeF nb (U.getF k)) (e.dir, e.name) none) (upd U.dirF e.dir (some ((U.dirF e.dir).getD 0 - 1))) (fun u => nodeF nb (T.seg u)) ((T.D.length : Int) - 1))
    (hy : h'.get n = some (.row (ndC { x with many := x.many - 1 } sl) 126 (.rw 0 []))) (hnx : h'.next = h.next) (hs : ∀ k, k ≠ bl → k ≠ bd → k ≠ n → h'.get k = h.get k) :
    TreeP h' F T (U.taken e.dir e.name) bt bl bd bu nb := by
  obtain ⟨ok', eG, eC, eM⟩ := t.okU.take he
  have hd : U.is e.dir = true := t.okU.dirs e he
  have sm : Same 64 h h' := ⟨Nat.le_of_eq hnx.symm, fun b all st hb hgb => by
    obtain ⟨e1, e2, e3⟩ := t.core.row_ne hgb
    rw [hs b e1 e2 (get_ne hgb hx (fun e => by simp at e))]; exact hgb⟩
  refine ⟨t.len, ?_, fun a ha => ?_, t.nd, t.nF, t.own, fun k hk => by rw [hnx]; exact t.lt k hk, t.ok, t.acl, ok', fun a ha => t.sub a (List.mem_filter.1 ha).1, t.B, t.D⟩
  · have eL : (fun k => nodeF nb ((U.taken e.dir e.name).getF k)) = upd (fun k => nodeF nb (U.getF k)) (e.dir, e.name) none := by
      rw [eG]
      funext k
      by_cases hk : k = e.key
      · subst hk
        rw [upd_self]; show nodeF nb none = _; exact (upd_self _ _ _).symm
      · rw [upd_ne _ _ hk]; exact (upd_ne (fun k => nodeF nb (U.getF k)) none (show k ≠ (e.dir, e.name) from hk)).symm
    have c0 : (U.dirF e.dir).getD 0 = U.count e.dir := by unfold Hi.dirF; rw [if_pos hd]; rfl
    have eD : (U.taken e.dir e.name).dirF = upd U.dirF e.dir (some ((U.dirF e.dir).getD 0 - 1)) := by
      rw [c0]
      funext d'
      show (if U.is d' = true then some ((U.taken e.dir e.name).count d' : Int) else none) = _
      have h1 := eC d'
      by_cases e2 : d' = e.dir
      · subst e2
        rw [if_pos rfl] at h1
        rw [upd_self, if_pos hd]; congr 1; omega
      · rw [if_neg (Ne.symm e2), Nat.add_zero] at h1
        rw [upd_ne _ _ e2, ← h1]; rfl
    rw [eL, eD]
    exact c
  · obtain ⟨m, h1, h2, sl', h3, h4, h5⟩ := t.node a ha
    have hm := eM a.id
    refine ⟨m, h1, h2, ?_⟩
    by_cases hi : a.id = e.id
    · have hmn : m = n := by rw [hi, hn] at h1; exact (Option.some.inj h1).symm
      subst hmn
      rw [hx] at h4
      simp only [ndC, Option.some.injEq, Ob.row.injEq, List.cons.injEq, Value.int.injEq, true_and, and_true] at h4
      rw [if_pos hi.symm] at hm
      refine ⟨sl', by omega, ?_, h5.same sm fun _ hk => hk⟩
      rw [hy]
      simp only [ndC, Option.some.injEq, Ob.row.injEq, List.cons.injEq, Value.int.injEq, true_and, and_true]
      simp only [h4, true_and]
      omega
    · have hne : m ≠ n := fun e' => hi (nb_inj t.nd (e' ▸ h1) hn)
      have hr := t.core.row_ne h4
      rw [if_neg (Ne.symm hi), Nat.add_zero] at hm
      rw [← hm]
      exact ⟨sl', by omega, by rw [hs m hr.1 hr.2.1 hne]; exact h4, h5.same sm fun _ hk => hk⟩
end
end Go.Proofs.YtncmgiddcefpcaaDoor
namespace Go.Proofs.YtncmgiddcefpcaaDoor
open Go Go.Ev Go.Con
set_option linter.unusedSimpArgs false
set_option linter.unusedVariables false
set_option maxRecDepth 100000
section
variable {h : Hp} {F : Nat → Prop} {T U : Hi} {bt bl bd bu : Nat} {nb : List Nat}
theorem sortedN_mem {T : Hi} {d : Int} {s : ByteArray} : s ∈ sortedN T d ↔ ∃ e ∈ T.L, e.key = (d, s) := by
  unfold sortedN
  rw [List.mem_map]
  constructor
  · rintro ⟨l, hl, rfl⟩
    rw [(sortB_perm _).mem_iff, List.mem_map] at hl
    obtain ⟨s, hs, rfl⟩ := hl
    unfold Hi.namesOf at hs
    obtain ⟨e, he, rfl⟩ := List.mem_map.1 hs
    obtain ⟨he, hd⟩ := List.mem_filter.1 he
    refine ⟨e, he, ?_⟩
    rw [ofL_of]
    unfold En.key
    rw [of_decide_eq_true hd]
  · rintro ⟨e, he, hk⟩
    have hd : e.dir = d := congrArg Prod.fst hk
    have hn : e.name = s := congrArg Prod.snd hk
    refine ⟨s.data.toList, ?_, ofL_of s⟩
    rw [(sortB_perm _).mem_iff, List.mem_map]
    refine ⟨s, ?_, rfl⟩
    unfold Hi.namesOf
    exact List.mem_map.2 ⟨e, List.mem_filter.2 ⟨he, decide_eq_true hd⟩, hn⟩
theorem sortedN_nodup (ok : T.Ok) (d : Int) : (sortedN T d).Nodup := by
  unfold sortedN
  have h1 : (T.namesOf d).Nodup := by
    unfold Hi.namesOf
    have h2 : ((T.L.filter fun e => decide (e.dir = d)).map En.key).Nodup := (List.filter_sublist.map _).nodup ok.keys
    have h3 : (T.L.filter fun e => decide (e.dir = d)).map En.key = ((T.L.filter fun e => decide (e.dir = d)).map (·.name)).map fun s => (d, s) := by
      rw [List.map_map]
      refine List.map_congr_left fun e he => ?_
      have := of_decide_eq_true (List.mem_filter.1 he).2
      show (e.dir, e.name) = (d, e.name)
      rw [this]
    rw [h3] at h2
    exact List.Pairwise.of_map (fun s => (d, s)) (fun a b hab e => hab (by rw [e])) h2
  have h4 : ((T.namesOf d).map fun s => s.data.toList).Nodup := List.Pairwise.map (S := fun a b => a ≠ b) _ (fun a b hab e => hab (ba_ext e)) h1
  have h5 := ((sortB_perm ((T.namesOf d).map fun s => s.data.toList)).symm.nodup h4)
  exact List.Pairwise.map (S := fun a b => a ≠ b) _ (fun a b hab e => hab (by have := congrArg (fun x : ByteArray => x.data.toList) e; simpa [ofL] using this)) h5
def zeroC : List Value := [.int .i64 0, .int .i64 0, .int .i64 0, .string ByteArray.empty, .bool false, .slice none 0 0, .int .i64 0, .int .i64 0, .int .i64 0, .int .i64 0]
def DelP (h : Hp) (F : Nat → Prop) (bt : Nat) (r : Hi × Bn × Int) (v : Value) (h' : Hp) : Prop :=
  (∃ sl', v = .tuple #[.agg (bnC r.2.1 sl').toArray, .int .i64 r.2.2] ∧ TmTy h' (fun k => h.next ≤ k) sl' r.2.1.acl) ∧ ∃ F', TreeAt h' F' r.1 bt ∧ Upd h F h' F'
structure DelI (H : Hp) (F : Nat → Prop) (T : Hi) (i bt bl bd bu : Nat) (nb : List Nat) (z : Nat) (l : Value) (ns : List ByteArray) (h' : Hp) (k : Nat) : Prop where
  t : TreeP h' F T (T.part i (ns.take k)) bt bl bd bu nb
  l : SlTy h' (fun j => H.next ≤ j) 9 1 l (strs ns)
  z : h'.get z = some (.row zeroC 45 (.rw 0 []))
  next : H.next ≤ h'.next
  same : ∀ j, j < H.next → ¬ F j → h'.get j = H.get j
theorem TreeP.gone {i : Nat} {ns : List ByteArray} (t : TreeP h F T (T.part i ns) bt bl bd bu nb) (hU : (T.part i ns).L = T.L.filter fun e => !decide (e.id = i)) {d : Int} {s : ByteArray} (hg : T.get d s = some i)
    (hc : (T.br i).kind = 2 → T.count (T.br i).dir = 0) {h' : Hp}
    (c : CoreAt h' bt bl bd bu (fun k => nodeF nb ((T.part i ns).getF k)) (if (T.br i).kind = 2 then upd (T.part i ns).dirF (T.br i).dir none else (T.part i ns).dirF)
      (if (T.br i).kind = 1 then upd (fun u => nodeF nb (T.seg u)) (T.br i).uid none else fun u => nodeF nb (T.seg u)) ((T.D.length : Int) - 1))
    (hn : h'.next = h.next) (hs : ∀ k, k ≠ bd → k ≠ bu → h'.get k = h.get k) : TreeB h' F (T.gone i) bt bl bd bu nb ∧ ∀ e ∈ T.L, ∃ n, nb[e.id]? = some n ∧ F n ∧ NodeAt h' F n ⟨T.br e.id, e.dir, (T.part i ns).many e.id⟩ := by
  obtain ⟨ok', eG, eS, eD⟩ := t.ok.gone hg hc
  have hP : T.part i ns = ⟨T.B, T.L.filter fun e => !decide (e.id = i), T.D⟩ := by
    show (Hi.mk T.B (T.part i ns).L T.D) = _
    rw [hU]
  have sm : Same 64 h h' := ⟨Nat.le_of_eq hn.symm, fun b all st hb hgb => by
    obtain ⟨e1, e2, e3⟩ := t.core.row_ne hgb
    rw [hs b e2 e3]; exact hgb⟩
  have node : ∀ e ∈ T.L, ∃ n, nb[e.id]? = some n ∧ F n ∧ NodeAt h' F n ⟨T.br e.id, e.dir, (T.part i ns).many e.id⟩ := fun e he => by
    obtain ⟨m, h1, h2, sl, h3, h4, h5⟩ := t.node e he
    have hr := t.core.row_ne h4
    exact ⟨m, h1, h2, sl, by omega, by rw [hs m hr.2.1 hr.2.2]; exact h4, h5.same sm fun _ hk => hk⟩
  have hm : ∀ j, (T.gone i).many j = (T.part i ns).many j := fun j => by rw [hP]; rfl
  have hlen : (T.gone i).D.length = T.D.length := by unfold Hi.gone; dsimp only; split <;> simp
  refine ⟨⟨t.len, ?_, fun e he => ?_, t.nd, t.nF, t.own, fun k hk => by rw [hn]; exact t.lt k hk, ok', t.acl⟩, node⟩
  · have eS' : (fun u => nodeF nb ((T.gone i).seg u)) = if (T.br i).kind = 1 then upd (fun u => nodeF nb (T.seg u)) (T.br i).uid none else fun u => nodeF nb (T.seg u) := by
      rw [eS]
      split
      · funext u
        by_cases hu : u = (T.br i).uid
        · subst hu; rw [upd_self, upd_self]; rfl
        · rw [upd_ne _ _ hu, upd_ne _ _ hu]
      · rfl
    rw [eG, eD, eS', hlen, ← hP]
    exact c
  · rw [hm]
    exact node e (List.mem_filter.1 he).1
theorem tDelete_spec (t : TreeAt h F T bt) (hL : T.L.length ≤ 1000000000) (d : Int) (s : ByteArray) :
    Meets kon 69 [ptrV bt, .int .i64 d, .string s] h (DelP h F bt (T.delete d s)) := by
  obtain ⟨bl, bd, bu, nb, t⟩ := t
  refine Meets.mk rfl (by kernel_rfl) Tryd.func69 rfl (congrArg Array.toList Tryd.results69) ?_
  repeat' (first | simp only [evr, nextP_norm, evd, evq, beq_self_eq_true, cond_true, cond_false, reduceIte, Nat.reduceEqDiff, Nat.reduceAdd, Int.reduceBNe, Int.reduceBEq, Int.reduceLT, Int.reduceLE, Int.reduceEq, evh, evp, Nat.reduceLeDiff, Nat.reduceSub, Nat.reduceBEq, typs] | refine kCond2_by (fun hc => ?_) (fun hc => ?_) <;> try simp only [hc] | refine kPick_by (fun hc => ?_) (fun hc => ?_) <;> try simp only [hc] | refine kWant_by (fun hc => ?_) (fun hc => ?_) <;> try simp only [hc])
  generalize hh : Hp.push h _ = H
  have g6 : H.get h.next = some (.row zeroC 45 (.rw 0 [])) := by rw [← hh]; exact Hp.get_push_self _ _
  have hk : Keep h H := by rw [← hh]; exact Keep.push _ _
  have hx : H.next = h.next + 1 := by rw [← hh]; rfl
  clear hh
  have tH : TreeB H F T bt bl bd bu nb := t.keep hk.1 fun j hj => hk.2 j (t.lt j hj)
  have g1 := (get_spec tH.core d s).call
  have g3 := (none_spec bt H).call
  have q6 := rowOf_rw g6
  unfold zeroC at g6 q6
  cases hg : T.getF (d, s) with
  | none =>
    rw [hg] at g1
    unfold nodeF Option.bind optP at g1
    repeat' (first | simp only [evr, nextP_norm, evd, evq, beq_self_eq_true, cond_true, cond_false, reduceIte, Nat.reduceEqDiff, Nat.reduceAdd, Int.reduceBNe, Int.reduceBEq, Int.reduceLT, Int.reduceLE, Int.reduceEq, evh, evp, Nat.reduceLeDiff, Nat.reduceSub, Nat.reduceBEq, typs, g1, g3, g6, q6] | refine kCond2_by (fun hc => ?_) (fun hc => ?_) <;> try simp only [hc] | refine kPick_by (fun hc => ?_) (fun hc => ?_) <;> try simp only [hc] | refine kWant_by (fun hc => ?_) (fun hc => ?_) <;> try simp only [hc])
    have e : T.delete d s = (T, noBn, 4) := by simp [Hi.delete, Hi.get, hg]
    rw [e]
    exact ⟨⟨.slice none 0 0, rfl, .inl ⟨rfl, rfl⟩⟩, F, ⟨bl, bd, bu, nb, t.keep hk.1 fun j hj => by rw [Hp.get_set_ne (by have := t.lt j hj; omega)]; exact hk.2 j (t.lt j hj)⟩, Upd.keep (hk.set (Nat.le_refl _))⟩
  | some i =>
    obtain ⟨e0, he0, hk0, hi0⟩ := Hi.get_some hg
    obtain ⟨n, hn, hFn, sl, hlt, hrow, hsl⟩ := tH.node e0 he0
    have hd0 : e0.dir = d := congrArg Prod.fst hk0
    have hn0 : e0.name = s := congrArg Prod.snd hk0
    rw [hi0] at hn hrow hsl
    have e1 : nodeF nb (some i) = some n := hn
    have hr := rowOf_rw hrow
    have r0 := rowOf_rw tH.core.row
    unfold ndC at hr
    rw [hg, e1] at g1
    unfold optP ptrV at g1
    unfold ptrV
    repeat' (first | simp only [evr, nextP_norm, evd, evq, beq_self_eq_true, cond_true, cond_false, reduceIte, Nat.reduceEqDiff, Nat.reduceAdd, Int.reduceBNe, Int.reduceBEq, Int.reduceLT, Int.reduceLE, Int.reduceEq, evh, evp, Nat.reduceLeDiff, Nat.reduceSub, Nat.reduceBEq, typs, g1] | refine kCond2_by (fun hc => ?_) (fun hc => ?_) <;> try simp only [hc] | refine kPick_by (fun hc => ?_) (fun hc => ?_) <;> try simp only [hc] | refine kWant_by (fun hc => ?_) (fun hc => ?_) <;> try simp only [hc])
    by_cases hbusy : (T.br i).kind = 2 ∧ 0 < T.count (T.br i).dir
    · have f1 : ((T.br i).kind == 2) = true := by simp [hbusy.1]
      have his : T.is (T.br i).dir = true := by
        obtain ⟨e, he, h1⟩ := Hi.count_pos.1 hbusy.2
        rw [← h1]; exact t.ok.dirs e he
      have hl := tH.core.lookD (T.br i).dir false
      have hD : T.dirF (T.br i).dir = some (T.count (T.br i).dir : Int) := by unfold Hi.dirF; rw [if_pos his]
      rw [hD] at hl
      simp only [cond_false] at hl
      have f2 : decide ((0 : Int) < (T.count (T.br i).dir : Nat)) = true := by simp; omega
      refine Eq.mpr (Wp_drawOrd (KR.mk (by kernel_rfl))) ?_
      repeat' (first | simp only [evr, nextP_norm, evd, evq, beq_self_eq_true, cond_true, cond_false, reduceIte, Nat.reduceEqDiff, Nat.reduceAdd, Int.reduceBNe, Int.reduceBEq, Int.reduceLT, Int.reduceLE, Int.reduceEq, evh, evp, Nat.reduceLeDiff, Nat.reduceSub, Nat.reduceBEq, typs, g1, hr, r0, f1, hl, f2, g6, q6] | refine kCond2_by (fun hc => ?_) (fun hc => ?_) <;> try simp only [hc] | refine kPick_by (fun hc => ?_) (fun hc => ?_) <;> try simp only [hc] | refine kWant_by (fun hc => ?_) (fun hc => ?_) <;> try simp only [hc])
      have e : T.delete d s = (T, noBn, 16) := by simp [Hi.delete, Hi.get, hg, hbusy]
      rw [e]
      exact ⟨⟨.slice none 0 0, rfl, .inl ⟨rfl, rfl⟩⟩, F, ⟨bl, bd, bu, nb, t.keep hk.1 fun j hj => by rw [Hp.get_set_ne (by have := t.lt j hj; omega)]; exact hk.2 j (t.lt j hj)⟩, Upd.keep (hk.set (Nat.le_refl _))⟩
    · have hl := tH.core.lookD (T.br i).dir false
      have hD : (T.br i).kind = 2 → (T.dirF (T.br i).dir).getD 0 = 0 := fun hk2 => by
        have h0 : T.count (T.br i).dir = 0 := Nat.eq_zero_of_not_pos fun hp => hbusy ⟨hk2, hp⟩
        unfold Hi.dirF; split
        · rw [h0]; rfl
        · rfl
      have hl2 : (T.br i).kind = 2 → evLookup kon.P 116 (.map (some bd)) (.int .i64 (T.br i).dir) false H = some (.int .i64 0) := fun hk2 => by
        have := hD hk2
        rw [hl]
        cases hq : T.dirF (T.br i).dir with
        | none => rfl
        | some x => rw [hq] at this; simp at this; subst this; rfl
      refine Wp.mono (Q := fun e fr' h' => e = Ex.norm ∧ h' = H ∧ fr'.get 0 = some (.pointer (some ⟨bt, 0, none⟩)) ∧ fr'.get 1 = some (.int .i64 d) ∧ fr'.get 6 = some (.pointer (some ⟨h.next, 0, none⟩)) ∧ fr'.get 8 = some (.pointer (some ⟨n, 0, none⟩)) ∧ fr'.get 23 = some (.bool false)) ?_ ?_
      · by_cases hk2 : (T.br i).kind = 2
        · have f1 : ((T.br i).kind == 2) = true := by simp [hk2]
          have f2 := hl2 hk2
          refine Eq.mpr (Wp_drawOrd (KR.mk (by kernel_rfl))) ?_
          repeat' (first | simp only [evr, nextP_norm, evd, evq, beq_self_eq_true, cond_true, cond_false, reduceIte, Nat.reduceEqDiff, Nat.reduceAdd, Int.reduceBNe, Int.reduceBEq, Int.reduceLT, Int.reduceLE, Int.reduceEq, evh, evp, Nat.reduceLeDiff, Nat.reduceSub, Nat.reduceBEq, typs, g1, hr, r0, f1, f2, Int.lt_irrefl] | refine kCond2_by (fun hc => ?_) (fun hc => ?_) <;> try simp only [hc] | refine kPick_by (fun hc => ?_) (fun hc => ?_) <;> try simp only [hc] | refine kWant_by (fun hc => ?_) (fun hc => ?_) <;> try simp only [hc])
        · have f1 : ((T.br i).kind == 2) = false := by simp [hk2]
          refine Eq.mpr (Wp_drawOrd (KR.mk (by kernel_rfl))) ?_
          repeat' (first | simp only [evr, nextP_norm, evd, evq, beq_self_eq_true, cond_true, cond_false, reduceIte, Nat.reduceEqDiff, Nat.reduceAdd, Int.reduceBNe, Int.reduceBEq, Int.reduceLT, Int.reduceLE, Int.reduceEq, evh, evp, Nat.reduceLeDiff, Nat.reduceSub, Nat.reduceBEq, typs, g1, hr, r0, f1] | refine kCond2_by (fun hc => ?_) (fun hc => ?_) <;> try simp only [hc] | refine kPick_by (fun hc => ?_) (fun hc => ?_) <;> try simp only [hc] | refine kWant_by (fun hc => ?_) (fun hc => ?_) <;> try simp only [hc])
      rintro ex fr Hx ⟨hE, hH, a0, a1, a6, a8, a23⟩
      rw [hE, hH]
      clear hE hH ex Hx
      repeat' (first | simp only [evr, nextP_norm, evd, evq, beq_self_eq_true, cond_true, cond_false, reduceIte, Nat.reduceEqDiff, Nat.reduceAdd, Int.reduceBNe, Int.reduceBEq, Int.reduceLT, Int.reduceLE, Int.reduceEq, evh, evp, Nat.reduceLeDiff, Nat.reduceSub, Nat.reduceBEq, typs, a23, a0, a1] | refine kCond2_by (fun hc => ?_) (fun hc => ?_) <;> try simp only [hc] | refine kPick_by (fun hc => ?_) (fun hc => ?_) <;> try simp only [hc] | refine kWant_by (fun hc => ?_) (fun hc => ?_) <;> try simp only [hc])
      refine callP_meets (tNames_spec ⟨bl, bd, bu, nb, tH⟩ hL d) ?_
      rintro l h1 ⟨k1, hls⟩
      have hll := StrSl.len hls.slAt
      have hlen : (sortedN T d).length ≤ 1000000000 := by
        unfold sortedN Hi.namesOf
        rw [List.length_map, (sortB_perm _).length_eq, List.length_map, List.length_map]
        exact Nat.le_trans (List.length_filter_le _ _) hL
      have hmem := fun x => sortedN_mem (T := T) (d := d) (s := x)
      have hnd := sortedN_nodup t.ok d
      generalize hns : sortedN T d = ns at *
      repeat' (first | simp only [evr, nextP_norm, evd, evq, beq_self_eq_true, cond_true, cond_false, reduceIte, Nat.reduceEqDiff, Nat.reduceAdd, Int.reduceBNe, Int.reduceBEq, Int.reduceLT, Int.reduceLE, Int.reduceEq, evh, evp, Nat.reduceLeDiff, Nat.reduceSub, Nat.reduceBEq, typs, hll, a0, a1, a6, a8] | refine kCond2_by (fun hc => ?_) (fun hc => ?_) <;> try simp only [hc] | refine kPick_by (fun hc => ?_) (fun hc => ?_) <;> try simp only [hc] | refine kWant_by (fun hc => ?_) (fun hc => ?_) <;> try simp only [hc])
      have I0 : DelI H F T i bt bl bd bu nb h.next l ns h1 0 := by
        refine ⟨?_, hls, (k1.2 _ (by omega)).trans g6, k1.1, fun j hj _ => k1.2 j hj⟩
        rw [List.take_zero, Hi.part_nil]
        exact (tH.keep k1.1 fun j hj => k1.2 j (tH.lt j hj)).part
      refine Wp_loop (fun m fr h' => ∃ k : Nat, m = ns.length - k ∧ k ≤ ns.length ∧ fr.get 0 = some (.pointer (some ⟨bt, 0, none⟩)) ∧ fr.get 1 = some (.int .i64 d) ∧ fr.get 6 = some (.pointer (some ⟨h.next, 0, none⟩)) ∧ fr.get 8 = some (.pointer (some ⟨n, 0, none⟩)) ∧
        fr.get 46 = some l ∧ fr.get 47 = some (.int .i64 ns.length) ∧ fr.get 48 = some (.int .i64 k) ∧ DelI H F T i bt bl bd bu nb h.next l ns h' k) ns.length ⟨0, rfl, Nat.zero_le _, ?_, ?_, ?_, ?_, ?_, ?_, ?_, I0⟩ ?_
      · repeat' (first | simp only [evr, nextP_norm, evd, evq, beq_self_eq_true, cond_true, cond_false, reduceIte, Nat.reduceEqDiff, Nat.reduceAdd, Int.reduceBNe, Int.reduceBEq, Int.reduceLT, Int.reduceLE, Int.reduceEq, evh, evp, Nat.reduceLeDiff, Nat.reduceSub, Nat.reduceBEq, typs, a0] | refine kCond2_by (fun hc => ?_) (fun hc => ?_) <;> try simp only [hc] | refine kPick_by (fun hc => ?_) (fun hc => ?_) <;> try simp only [hc] | refine kWant_by (fun hc => ?_) (fun hc => ?_) <;> try simp only [hc])
      · repeat' (first | simp only [evr, nextP_norm, evd, evq, beq_self_eq_true, cond_true, cond_false, reduceIte, Nat.reduceEqDiff, Nat.reduceAdd, Int.reduceBNe, Int.reduceBEq, Int.reduceLT, Int.reduceLE, Int.reduceEq, evh, evp, Nat.reduceLeDiff, Nat.reduceSub, Nat.reduceBEq, typs, a1] | refine kCond2_by (fun hc => ?_) (fun hc => ?_) <;> try simp only [hc] | refine kPick_by (fun hc => ?_) (fun hc => ?_) <;> try simp only [hc] | refine kWant_by (fun hc => ?_) (fun hc => ?_) <;> try simp only [hc])
      · repeat' (first | simp only [evr, nextP_norm, evd, evq, beq_self_eq_true, cond_true, cond_false, reduceIte, Nat.reduceEqDiff, Nat.reduceAdd, Int.reduceBNe, Int.reduceBEq, Int.reduceLT, Int.reduceLE, Int.reduceEq, evh, evp, Nat.reduceLeDiff, Nat.reduceSub, Nat.reduceBEq, typs, a6] | refine kCond2_by (fun hc => ?_) (fun hc => ?_) <;> try simp only [hc] | refine kPick_by (fun hc => ?_) (fun hc => ?_) <;> try simp only [hc] | refine kWant_by (fun hc => ?_) (fun hc => ?_) <;> try simp only [hc])
      · repeat' (first | simp only [evr, nextP_norm, evd, evq, beq_self_eq_true, cond_true, cond_false, reduceIte, Nat.reduceEqDiff, Nat.reduceAdd, Int.reduceBNe, Int.reduceBEq, Int.reduceLT, Int.reduceLE, Int.reduceEq, evh, evp, Nat.reduceLeDiff, Nat.reduceSub, Nat.reduceBEq, typs, a8] | refine kCond2_by (fun hc => ?_) (fun hc => ?_) <;> try simp only [hc] | refine kPick_by (fun hc => ?_) (fun hc => ?_) <;> try simp only [hc] | refine kWant_by (fun hc => ?_) (fun hc => ?_) <;> try simp only [hc])
      · repeat' (first | simp only [evr, nextP_norm, evd, evq, beq_self_eq_true, cond_true, cond_false, reduceIte, Nat.reduceEqDiff, Nat.reduceAdd, Int.reduceBNe, Int.reduceBEq, Int.reduceLT, Int.reduceLE, Int.reduceEq, evh, evp, Nat.reduceLeDiff, Nat.reduceSub, Nat.reduceBEq, typs] | refine kCond2_by (fun hc => ?_) (fun hc => ?_) <;> try simp only [hc] | refine kPick_by (fun hc => ?_) (fun hc => ?_) <;> try simp only [hc] | refine kWant_by (fun hc => ?_) (fun hc => ?_) <;> try simp only [hc])
      · repeat' (first | simp only [evr, nextP_norm, evd, evq, beq_self_eq_true, cond_true, cond_false, reduceIte, Nat.reduceEqDiff, Nat.reduceAdd, Int.reduceBNe, Int.reduceBEq, Int.reduceLT, Int.reduceLE, Int.reduceEq, evh, evp, Nat.reduceLeDiff, Nat.reduceSub, Nat.reduceBEq, typs] | refine kCond2_by (fun hc => ?_) (fun hc => ?_) <;> try simp only [hc] | refine kPick_by (fun hc => ?_) (fun hc => ?_) <;> try simp only [hc] | refine kWant_by (fun hc => ?_) (fun hc => ?_) <;> try simp only [hc])
      · repeat' (first | simp only [evr, nextP_norm, evd, evq, beq_self_eq_true, cond_true, cond_false, reduceIte, Nat.reduceEqDiff, Nat.reduceAdd, Int.reduceBNe, Int.reduceBEq, Int.reduceLT, Int.reduceLE, Int.reduceEq, evh, evp, Nat.reduceLeDiff, Nat.reduceSub, Nat.reduceBEq, typs] | refine kCond2_by (fun hc => ?_) (fun hc => ?_) <;> try simp only [hc] | refine kPick_by (fun hc => ?_) (fun hc => ?_) <;> try simp only [hc] | refine kWant_by (fun hc => ?_) (fun hc => ?_) <;> try simp only [hc])
        rfl
      clear a0 a1 a6 a8 a23 I0
      rintro m fr2 h2 ⟨k, rfl, hk2, a0, a1, a6, a8, a46, a47, a48, I⟩
      by_cases h3 : k < ns.length
      · have e3 : decide ((k : Int) < ns.length) = true := by simp; omega
        obtain ⟨p, x1, x2⟩ := StrSl.at I.l.slAt (List.getElem?_eq_getElem h3)
        repeat' (first | simp only [evr, nextP_norm, evd, evq, beq_self_eq_true, cond_true, cond_false, reduceIte, Nat.reduceEqDiff, Nat.reduceAdd, Int.reduceBNe, Int.reduceBEq, Int.reduceLT, Int.reduceLE, Int.reduceEq, evh, evp, Nat.reduceLeDiff, Nat.reduceSub, Nat.reduceBEq, typs, a0, a1, a6, a8, a46, a47, a48, e3, x1, x2] | refine kCond2_by (fun hc => ?_) (fun hc => ?_) <;> try simp only [hc] | refine kPick_by (fun hc => ?_) (fun hc => ?_) <;> try simp only [hc] | refine kWant_by (fun hc => ?_) (fun hc => ?_) <;> try simp only [hc])
        have hxm : ns[k] ∈ ns := List.getElem_mem h3
        have hnot : ns[k] ∉ ns.take k := fun hc => by
          obtain ⟨j, hj, he⟩ := List.mem_take_iff_getElem.1 hc
          have := (List.getElem?_inj (i := j) (j := k) (by omega) hnd).1 (by rw [List.getElem?_eq_getElem (by omega), List.getElem?_eq_getElem h3, he])
          omega
        obtain ⟨e, he, hke⟩ := (hmem _).1 hxm
        have hTg : T.getF (d, ns[k]) = some e.id := by rw [← hke]; exact t.ok.get_of he
        have hUg : (T.part i (ns.take k)).getF (d, ns[k]) = some e.id := by
          have := Hi.part_get t.ok (i := i) (d := d) hnot
          exact this.trans hTg
        obtain ⟨n2, hn2, hF2, sl2, hlt2, hrow2, hsl2⟩ := I.t.node e he
        have gx := (get_spec I.t.core d ns[k]).call
        have e2 : nodeF nb (some e.id) = some n2 := hn2
        rw [hUg, e2] at gx
        unfold optP ptrV at gx
        obtain ⟨n0, hn0', hF0, sl0, hlt0, hrow0, hsl0⟩ := I.t.node e0 he0
        rw [hi0] at hn0' hrow0
        have hn00 : n0 = n := by rw [hn] at hn0'; exact (Option.some.inj hn0').symm
        subst hn00
        have al0 : aliveOb (h2.get n0) = true := by rw [hrow0]; rfl
        have al2 : aliveOb (h2.get n2) = true := by rw [hrow2]; rfl
        have hdirs : ∀ e ∈ T.L, e.id = i → e.dir = d := fun a ha hai => by rw [t.ok.homes a ha e0 he0 (hai.trans hi0.symm)]; exact hd0
        have w1 := wrap64 (x := (k : Int) + 1) (by omega) (by omega)
        by_cases hii : e.id = i
        · have hnn : n2 = n0 := by rw [hii, hn] at hn2; exact (Option.some.inj hn2).symm
          subst hnn
          repeat' (first | simp only [evr, nextP_norm, evd, evq, beq_self_eq_true, cond_true, cond_false, reduceIte, Nat.reduceEqDiff, Nat.reduceAdd, Int.reduceBNe, Int.reduceBEq, Int.reduceLT, Int.reduceLE, Int.reduceEq, evh, evp, Nat.reduceLeDiff, Nat.reduceSub, Nat.reduceBEq, typs, a0, a1, a6, a8, a46, a47, a48, gx, al0, Bool.and_self] | refine kCond2_by (fun hc => ?_) (fun hc => ?_) <;> try simp only [hc] | refine kPick_by (fun hc => ?_) (fun hc => ?_) <;> try simp only [hc] | refine kWant_by (fun hc => ?_) (fun hc => ?_) <;> try simp only [hc])
          have hUL : (T.part i (ns.take k)).L.length ≤ T.L.length := List.length_filter_le _ _
          have hcnt : 0 ≤ ((T.part i (ns.take k)).dirF d).getD 0 ∧ ((T.part i (ns.take k)).dirF d).getD 0 ≤ 1000000000000 := by
            have := Hi.count_le (T.part i (ns.take k)) d
            unfold Hi.dirF
            split
            · simp; omega
            · simp
          have hmn := Hi.many_le (T.part i (ns.take k)) i
          have hf : (fun x => nodeF nb ((T.part i (ns.take k)).getF x)) (d, ns[k]) = some n2 := by show nodeF nb _ = _; rw [hUg]; exact e2
          refine callP_meets (take_spec I.t.core hrow0 d ns[k] hf (by omega) (by omega) (show -4000000000000000000 ≤ (((T.part i (ns.take k)).many i : Nat) : Int) by omega) (show (((T.part i (ns.take k)).many i : Nat) : Int) ≤ 4000000000000000000 by omega)) ?_
          rintro _ h3' ⟨rfl, c', hy, hnx, hs'⟩
          repeat' (first | simp only [evr, nextP_norm, evd, evq, beq_self_eq_true, cond_true, cond_false, reduceIte, Nat.reduceEqDiff, Nat.reduceAdd, Int.reduceBNe, Int.reduceBEq, Int.reduceLT, Int.reduceLE, Int.reduceEq, evh, evp, Nat.reduceLeDiff, Nat.reduceSub, Nat.reduceBEq, typs, a0, a1, a6, a8, a46, a47, a48, w1] | refine kCond2_by (fun hc => ?_) (fun hc => ?_) <;> try simp only [hc] | refine kPick_by (fun hc => ?_) (fun hc => ?_) <;> try simp only [hc] | refine kWant_by (fun hc => ?_) (fun hc => ?_) <;> try simp only [hc])
          obtain ⟨eU, heU, hkU, hiU⟩ := Hi.get_some hUg
          have hd1 : eU.dir = d := congrArg Prod.fst hkU
          have hn1 : eU.name = ns[k] := congrArg Prod.snd hkU
          have hp : T.part i (ns.take (k + 1)) = (T.part i (ns.take k)).taken eU.dir eU.name := by
            rw [hd1, hn1, ← Hi.part_yes t.ok hdirs (hTg.trans (congrArg some hii)), ← List.take_append_getElem h3]
          rw [← hd1, ← hn1] at c'
          have t' := I.t.take heU (by rw [hiU]; exact hn2) hrow0 c' hy hnx hs'
          have fl := t.ltb
          have fn := t.lt _ hF2
          refine ⟨ns.length - (k + 1), by omega, k + 1, rfl, by omega, rfl, ⟨by rw [hp]; exact t', I.l.same ⟨Nat.le_of_eq hnx.symm, fun b all st hb hgb => ?_⟩ fun _ hk => hk, by rw [hs' _ (by omega) (by omega) (by omega)]; exact I.z, by rw [hnx]; exact I.next, fun j hj hjF => ?_⟩⟩
          · obtain ⟨y1, y2, y3⟩ := I.t.core.row_ne hgb
            rw [hs' b y1 y2 (get_ne hgb hrow0 (fun e => by simp at e))]; exact hgb
          · rw [hs' j (fun e => hjF (e ▸ t.own.2.1)) (fun e => hjF (e ▸ t.own.2.2.1)) (fun e => hjF (e ▸ hF2))]
            exact I.same j hj hjF
        · have hnn : n2 ≠ n0 := fun e' => hii (nb_inj t.nd (e' ▸ hn2) hn)
          have fb : (n2 == n0) = false := by simp [hnn]
          repeat' (first | simp only [evr, nextP_norm, evd, evq, beq_self_eq_true, cond_true, cond_false, reduceIte, Nat.reduceEqDiff, Nat.reduceAdd, Int.reduceBNe, Int.reduceBEq, Int.reduceLT, Int.reduceLE, Int.reduceEq, evh, evp, Nat.reduceLeDiff, Nat.reduceSub, Nat.reduceBEq, typs, a0, a1, a6, a8, a46, a47, a48, gx, al0, al2, fb, Bool.false_and, w1] | refine kCond2_by (fun hc => ?_) (fun hc => ?_) <;> try simp only [hc] | refine kPick_by (fun hc => ?_) (fun hc => ?_) <;> try simp only [hc] | refine kWant_by (fun hc => ?_) (fun hc => ?_) <;> try simp only [hc])
          have hp : T.part i (ns.take (k + 1)) = T.part i (ns.take k) := by
            rw [← List.take_append_getElem h3]
            exact Hi.part_no t.ok hdirs (by rw [show T.get d ns[k] = some e.id from hTg]; simpa using hii)
          exact ⟨ns.length - (k + 1), by omega, k + 1, rfl, by omega, rfl, ⟨by rw [hp]; exact I.t, I.l, I.z, I.next, I.same⟩⟩
      · have hkn : k = ns.length := by omega
        subst hkn
        have e3 : decide ((ns.length : Int) < ns.length) = false := by simp
        have hall : ∀ e ∈ T.L, e.id = i → e.name ∈ ns := fun e he hid => (hmem _).2 ⟨e, he, by unfold En.key; rw [t.ok.homes e he e0 he0 (hid.trans hi0.symm), hd0]⟩
        have It := I.t
        rw [List.take_length] at It
        have hU := Hi.part_all hall
        have hc : (T.br i).kind = 2 → T.count (T.br i).dir = 0 := fun hk2 => Nat.eq_zero_of_not_pos fun hp => hbusy ⟨hk2, hp⟩
        have hdel : T.delete d s = (T.gone i, T.br i, 0) := by
          have hb : ¬ ((T.br i).kind = 2 ∧ 0 < T.count (T.br i).dir) := hbusy
          unfold Hi.delete Hi.get; rw [hg]; simp only [if_neg hb]
        have fl := t.ltb
        have fin : ∀ {h3 h4 H5 : Hp} {slx : Value}, TreeB h3 F (T.gone i) bt bl bd bu nb → h.next ≤ h3.next → (∀ j, j < h.next → ¬ F j → h3.get j = h.get j) → Keep h3 h4 → TmTy h4 (fun j => h3.next ≤ j) slx (T.br i).acl → Same 64 h4 H5 →
            (∀ j, j < h.next → H5.get j = h4.get j) → DelP h F bt (T.delete d s) (.tuple #[.agg (bnC (T.br i) slx).toArray, .int .i64 0]) H5 := fun {h3 h4 H5 slx} y1 y2 y3 y4 y5 y6 y7 => by
          rw [hdel]
          refine ⟨⟨slx, rfl, y5.same y6 fun j hj => Nat.le_trans y2 hj⟩, F, ⟨bl, bd, bu, nb, y1.keep (Nat.le_trans y4.1 y6.1) fun j hj => ?_⟩, Nat.le_trans y2 (Nat.le_trans y4.1 y6.1), fun j h1 h2 => ?_, fun _ hj => .inl hj⟩
          · have h1 := t.lt j hj
            rw [y7 j h1, y4.2 j (by omega)]
          · rw [y7 j h1, y4.2 j (by omega), y3 j h1 h2]
        have hb2 : ∀ j, j < h.next → ¬ F j → h2.get j = h.get j := fun j h1 h2' => (I.same j (by omega) h2').trans (hk.2 j h1)
        have hn2x := I.next
        obtain ⟨n0, hn0', hF0, sl0, hlt0, hrow0, hsl0⟩ := It.node e0 he0
        rw [hi0] at hn0' hrow0
        have hn00 : n0 = n := by rw [hn] at hn0'; exact (Option.some.inj hn0').symm
        subst hn00
        have hrn := rowOf_rw hrow0
        unfold ndC at hrn
        have r0' := rowOf_rw It.core.row
        by_cases kk1 : (T.br i).kind = 1
        · have f1 : ((T.br i).kind == 1) = true := by simp [kk1]
          have kk2 : ¬ (T.br i).kind = 2 := by omega
          obtain ⟨h3, x1, m3, n3, s3⟩ := It.core.u.del (t := 117) (kt := 3) (et := 122) (P := kon.P) (by kernel_rfl) (keyI_ok Tryd.underlying3) (T.br i).uid
          unfold keyI at x1
          repeat' (first | simp only [evr, nextP_norm, evd, evq, beq_self_eq_true, cond_true, cond_false, reduceIte, Nat.reduceEqDiff, Nat.reduceAdd, Int.reduceBNe, Int.reduceBEq, Int.reduceLT, Int.reduceLE, Int.reduceEq, evh, evp, Nat.reduceLeDiff, Nat.reduceSub, Nat.reduceBEq, typs, a47, a48, e3, a0, a1, a6, a8, hrn, f1] | refine kCond2_by (fun hc => ?_) (fun hc => ?_) <;> try simp only [hc] | refine kPick_by (fun hc => ?_) (fun hc => ?_) <;> try simp only [hc] | refine kWant_by (fun hc => ?_) (fun hc => ?_) <;> try simp only [hc])
          refine Eq.mpr (Wp_drawOrd (KR.mk (by kernel_rfl))) ?_
          repeat' (first | simp only [evr, nextP_norm, evd, evq, beq_self_eq_true, cond_true, cond_false, reduceIte, Nat.reduceEqDiff, Nat.reduceAdd, Int.reduceBNe, Int.reduceBEq, Int.reduceLT, Int.reduceLE, Int.reduceEq, evh, evp, Nat.reduceLeDiff, Nat.reduceSub, Nat.reduceBEq, typs, a0, a6, a8, hrn, r0', P_delete, kDel, x1] | refine kCond2_by (fun hc => ?_) (fun hc => ?_) <;> try simp only [hc] | refine kPick_by (fun hc => ?_) (fun hc => ?_) <;> try simp only [hc] | refine kWant_by (fun hc => ?_) (fun hc => ?_) <;> try simp only [hc])
          obtain ⟨tB, nodes⟩ := It.gone hU hg hc (h' := h3) (by rw [if_neg kk2, if_pos kk1]; exact ⟨by rw [s3 bt It.core.bt_bu]; exact It.core.row, It.core.l.eq (s3 bl It.core.lu), It.core.d.eq (s3 bd It.core.du), m3, It.core.ld, It.core.lu, It.core.du⟩) n3 (fun j _ h1 => s3 j h1)
          obtain ⟨n1, y1, y2, hN⟩ := nodes e0 he0
          rw [hi0] at y1 hN
          have hn11 : n1 = n0 := by rw [hn] at y1; exact (Option.some.inj y1).symm
          subst hn11
          refine callP_meets (out_spec hN (t.acl i)) ?_
          rintro v h4 ⟨k4, slx, rfl, hs4⟩
          have z4 := (k4.2 h.next (by omega)).trans ((s3 h.next (by omega)).trans I.z)
          have hsc := hs4.isCell
          have hcv := hs4.cellsV
          have z4' := z4
          unfold zeroC at z4'
          unfold outV bnC
          have k4n := k4.1
          have e8 : (h.next = h4.next) = False := eq_false (by omega)
          have e9 : (h4.next = h.next) = False := eq_false (by omega)
          repeat' (first | simp only [evr, nextP_norm, evd, evq, beq_self_eq_true, cond_true, cond_false, reduceIte, Nat.reduceEqDiff, Nat.reduceAdd, Int.reduceBNe, Int.reduceBEq, Int.reduceLT, Int.reduceLE, Int.reduceEq, evh, evp, Nat.reduceLeDiff, Nat.reduceSub, Nat.reduceBEq, typs, a6, hsc, hcv, z4', e8, e9, if_false] | refine kCond2_by (fun hc => ?_) (fun hc => ?_) <;> try simp only [hc] | refine kPick_by (fun hc => ?_) (fun hc => ?_) <;> try simp only [hc] | refine kWant_by (fun hc => ?_) (fun hc => ?_) <;> try simp only [hc])
          refine fin tB (by omega) (fun j h1 h2' => (s3 j (fun e => h2' (e ▸ t.own.2.2.2))).trans (hb2 j h1 h2')) k4 hs4 (Same.trans (Same.trans (Same.keep (Keep.push _ _)) (Same.set (b := h4.next) ?_)) (Same.set (b := h.next) ?_)) fun j hj => ?_
          · rw [Hp.get_push_self]; exact (by decide : 45 ≠ 64)
          · rw [Hp.get_set_ne (by omega), Hp.get_push_lt (by omega), z4]; exact (by decide : 45 ≠ 64)
          · rw [Hp.get_set_ne (by omega), Hp.get_set_ne (by omega), Hp.get_push_lt (by omega)]
        · have f1 : ((T.br i).kind == 1) = false := by simp [kk1]
          by_cases kk2 : (T.br i).kind = 2
          · have f2 : ((T.br i).kind == 2) = true := by simp [kk2]
            obtain ⟨h3, x1, m3, n3, s3⟩ := It.core.d.del (t := 116) (kt := 3) (et := 3) (P := kon.P) (by kernel_rfl) (keyI_ok Tryd.underlying3) (T.br i).dir
            unfold keyI at x1
            repeat' (first | simp only [evr, nextP_norm, evd, evq, beq_self_eq_true, cond_true, cond_false, reduceIte, Nat.reduceEqDiff, Nat.reduceAdd, Int.reduceBNe, Int.reduceBEq, Int.reduceLT, Int.reduceLE, Int.reduceEq, evh, evp, Nat.reduceLeDiff, Nat.reduceSub, Nat.reduceBEq, typs, a47, a48, e3, a0, a1, a6, a8, hrn, f1, f2] | refine kCond2_by (fun hc => ?_) (fun hc => ?_) <;> try simp only [hc] | refine kPick_by (fun hc => ?_) (fun hc => ?_) <;> try simp only [hc] | refine kWant_by (fun hc => ?_) (fun hc => ?_) <;> try simp only [hc])
            refine Eq.mpr (Wp_drawOrd (KR.mk (by kernel_rfl))) ?_
            repeat' (first | simp only [evr, nextP_norm, evd, evq, beq_self_eq_true, cond_true, cond_false, reduceIte, Nat.reduceEqDiff, Nat.reduceAdd, Int.reduceBNe, Int.reduceBEq, Int.reduceLT, Int.reduceLE, Int.reduceEq, evh, evp, Nat.reduceLeDiff, Nat.reduceSub, Nat.reduceBEq, typs, a0, a6, a8, hrn, r0', P_delete, kDel, x1] | refine kCond2_by (fun hc => ?_) (fun hc => ?_) <;> try simp only [hc] | refine kPick_by (fun hc => ?_) (fun hc => ?_) <;> try simp only [hc] | refine kWant_by (fun hc => ?_) (fun hc => ?_) <;> try simp only [hc])
            obtain ⟨tB, nodes⟩ := It.gone hU hg hc (h' := h3) (by rw [if_pos kk2, if_neg kk1]; exact ⟨by rw [s3 bt It.core.bt_bd]; exact It.core.row, It.core.l.eq (s3 bl It.core.ld), m3, It.core.u.eq (s3 bu (Ne.symm It.core.du)), It.core.ld, It.core.lu, It.core.du⟩) n3 (fun j h1 _ => s3 j h1)
            obtain ⟨n1, y1, y2, hN⟩ := nodes e0 he0
            rw [hi0] at y1 hN
            have hn11 : n1 = n0 := by rw [hn] at y1; exact (Option.some.inj y1).symm
            subst hn11
            refine callP_meets (out_spec hN (t.acl i)) ?_
            rintro v h4 ⟨k4, slx, rfl, hs4⟩
            have z4 := (k4.2 h.next (by omega)).trans ((s3 h.next (by omega)).trans I.z)
            have hsc := hs4.isCell
            have hcv := hs4.cellsV
            have z4' := z4
            unfold zeroC at z4'
            unfold outV bnC
            have k4n := k4.1
            have e8 : (h.next = h4.next) = False := eq_false (by omega)
            have e9 : (h4.next = h.next) = False := eq_false (by omega)
            repeat' (first | simp only [evr, nextP_norm, evd, evq, beq_self_eq_true, cond_true, cond_false, reduceIte, Nat.reduceEqDiff, Nat.reduceAdd, Int.reduceBNe, Int.reduceBEq, Int.reduceLT, Int.reduceLE, Int.reduceEq, evh, evp, Nat.reduceLeDiff, Nat.reduceSub, Nat.reduceBEq, typs, a6, hsc, hcv, z4', e8, e9, if_false] | refine kCond2_by (fun hc => ?_) (fun hc => ?_) <;> try simp only [hc] | refine kPick_by (fun hc => ?_) (fun hc => ?_) <;> try simp only [hc] | refine kWant_by (fun hc => ?_) (fun hc => ?_) <;> try simp only [hc])
            refine fin tB (by omega) (fun j h1 h2' => (s3 j (fun e => h2' (e ▸ t.own.2.2.1))).trans (hb2 j h1 h2')) k4 hs4 (Same.trans (Same.trans (Same.keep (Keep.push _ _)) (Same.set (b := h4.next) ?_)) (Same.set (b := h.next) ?_)) fun j hj => ?_
            · rw [Hp.get_push_self]; exact (by decide : 45 ≠ 64)
            · rw [Hp.get_set_ne (by omega), Hp.get_push_lt (by omega), z4]; exact (by decide : 45 ≠ 64)
            · rw [Hp.get_set_ne (by omega), Hp.get_set_ne (by omega), Hp.get_push_lt (by omega)]
          · have f2 : ((T.br i).kind == 2) = false := by simp [kk2]
            obtain ⟨tB, nodes⟩ := It.gone hU hg hc (by rw [if_neg kk1, if_neg kk2]; exact It.core) rfl (fun _ _ _ => rfl)
            obtain ⟨n1, y1, y2, hN⟩ := nodes e0 he0
            rw [hi0] at y1 hN
            have hn11 : n1 = n0 := by rw [hn] at y1; exact (Option.some.inj y1).symm
            subst hn11
            repeat' (first | simp only [evr, nextP_norm, evd, evq, beq_self_eq_true, cond_true, cond_false, reduceIte, Nat.reduceEqDiff, Nat.reduceAdd, Int.reduceBNe, Int.reduceBEq, Int.reduceLT, Int.reduceLE, Int.reduceEq, evh, evp, Nat.reduceLeDiff, Nat.reduceSub, Nat.reduceBEq, typs, a47, a48, e3, a0, a1, a6, a8, hrn, f1, f2] | refine kCond2_by (fun hc => ?_) (fun hc => ?_) <;> try simp only [hc] | refine kPick_by (fun hc => ?_) (fun hc => ?_) <;> try simp only [hc] | refine kWant_by (fun hc => ?_) (fun hc => ?_) <;> try simp only [hc])
            refine callP_meets (out_spec hN (t.acl i)) ?_
            rintro v h4 ⟨k4, slx, rfl, hs4⟩
            have z4 := (k4.2 h.next (by omega)).trans I.z
            have hsc := hs4.isCell
            have hcv := hs4.cellsV
            have z4' := z4
            unfold zeroC at z4'
            unfold outV bnC
            have k4n := k4.1
            have e8 : (h.next = h4.next) = False := eq_false (by omega)
            have e9 : (h4.next = h.next) = False := eq_false (by omega)
            repeat' (first | simp only [evr, nextP_norm, evd, evq, beq_self_eq_true, cond_true, cond_false, reduceIte, Nat.reduceEqDiff, Nat.reduceAdd, Int.reduceBNe, Int.reduceBEq, Int.reduceLT, Int.reduceLE, Int.reduceEq, evh, evp, Nat.reduceLeDiff, Nat.reduceSub, Nat.reduceBEq, typs, a6, hsc, hcv, z4', e8, e9, if_false] | refine kCond2_by (fun hc => ?_) (fun hc => ?_) <;> try simp only [hc] | refine kPick_by (fun hc => ?_) (fun hc => ?_) <;> try simp only [hc] | refine kWant_by (fun hc => ?_) (fun hc => ?_) <;> try simp only [hc])
            refine fin tB (by omega) hb2 k4 hs4 (Same.trans (Same.trans (Same.keep (Keep.push _ _)) (Same.set (b := h4.next) ?_)) (Same.set (b := h.next) ?_)) fun j hj => ?_
            · rw [Hp.get_push_self]; exact (by decide : 45 ≠ 64)
            · rw [Hp.get_set_ne (by omega), Hp.get_push_lt (by omega), z4]; exact (by decide : 45 ≠ 64)
            · rw [Hp.get_set_ne (by omega), Hp.get_set_ne (by omega), Hp.get_push_lt (by omega)]
end
end Go.Proofs.YtncmgiddcefpcaaDoor
namespace Go.Proofs.YtncmgiddcefpcaaDoor
open Go Go.Ev Go.RowKit Go.Con
set_option linter.unusedSimpArgs false
set_option linter.unusedVariables false
set_option maxRecDepth 1000000
end Go.Proofs.YtncmgiddcefpcaaDoor
namespace Go.Proofs.YtncmgiddcefpcaaDoor
open Go Go.Ev Go.RowKit Go.Sort Go.Proofs
set_option linter.unusedSimpArgs false
set_option linter.unusedVariables false
set_option maxRecDepth 100000
theorem nan_walk (x : ByteArray) (w : World) : Calls Tryd.prog 121 #[.string x] w fun e w' => e = .returned (.bool false) ∧ w' = w := by
  go_enter Tryd.func121, Tryd.ntmps121
  go_wp2
  all_goals go_ret
  all_goals exact ⟨by simp, rfl⟩
theorem cb_cases : ∀ x y : List UInt8, (Lib.compareBytes x y = -1 ∧ x ≠ y) ∨ (Lib.compareBytes x y = 0 ∧ x = y) ∨ (Lib.compareBytes x y = 1 ∧ x ≠ y)
  | [], [] => by simp [Lib.compareBytes]
  | [], b :: y => by simp [Lib.compareBytes]
  | a :: x, [] => by simp [Lib.compareBytes]
  | a :: x, b :: y => by
    unfold Lib.compareBytes
    by_cases h1 : a < b
    · have : a ≠ b := by rintro rfl; exact absurd h1 (UInt8.lt_irrefl a)
      simp [h1, this]
    · by_cases h2 : b < a
      · have : a ≠ b := by rintro rfl; exact h1 h2
        simp [h1, h2, this]
      · have : a = b := UInt8.le_antisymm (UInt8.not_lt.1 h2) (UInt8.not_lt.1 h1)
        subst this
        simpa [h1] using cb_cases x y
theorem cmp_walk (x y : ByteArray) (w : World) : Calls Tryd.prog 107 #[.string x, .string y] w fun e w' => e = .returned (.int .i64 (Lib.compareBytes x.data.toList y.data.toList)) ∧ w' = w := by
  have hb : ∀ a b : ByteArray, Op.bytesLess a.toList b.toList = decide (Lib.compareBytes a.data.toList b.data.toList < 0) := fun a b => by
    rw [ByteArray.toList_eq, ByteArray.toList_eq, bytesLess_lt, Bool.eq_iff_iff]; simp [Go.Con.cmp_lt]
  go_enter Tryd.func107, Tryd.ntmps107
  go_wp2_with (go_at_call 121; refine (nan_walk _ _).mono ?_; rintro e w' ⟨rfl, hw⟩; rw [hw])
  all_goals go_ret
  all_goals refine ⟨?_, rfl⟩
  all_goals rcases cb_cases x.data.toList y.data.toList with ⟨h, e⟩ | ⟨h, e⟩ | ⟨h, e⟩
  all_goals simp_all [ByteArray.toList_eq]
theorem clos_walk (x y : ByteArray) (w : World) : Calls Tryd.prog 106 #[.string x, .string y] w fun e w' => e = .returned (.int .i64 (Lib.compareBytes x.data.toList y.data.toList)) ∧ w' = w := by
  have hcon := cmp_walk x y w
  generalize Lib.compareBytes x.data.toList y.data.toList = r at hcon ⊢
  go_enter Tryd.func106, Tryd.ntmps106
  go_wp2_with (go_at_call 107; refine hcon.mono ?_; rintro e w' ⟨rfl, rfl⟩)
  go_ret
  exact ⟨rfl, rfl⟩
section
variable {P : Program} (w : World) {ops : Array Oper} {rest : List Oper} {o : Oper} {a : Act} {Q : Exit → Act → World → Prop}
theorem wl_range (hg : o.guard = none) (m : Operand) (t k e : TypeId) (hop : o.op = Op.range t m) (ht : P.underlying t = some (.map k e)) (b : Nat) (es : Array MapEntry) (ck : Nat) (hm : a.eval m = .map (some b)) (hb : w.heap[b]? = some (.map es ck))
    (hK : wpList P ops Q rest (a.put o.dst (.pointer (some ⟨w.heap.size, 0, none⟩))) (w.alloc (.mapIter (some b) ck #[] ck))) : wpList P ops Q (o :: rest) a w := by
  refine wpList_plain hg fun K' hK' => ?_
  unfold Oper.wp
  simp [execOp, hop, hm, run_range_map w t k e b es ck ht hb, Result.andThen]
  exact hK' _ _ hK
def Drawn (w w1 : World) : Prop := w1 = w ∨ w1 = w.drew
theorem wl_next (hg : o.guard = none) (it : Operand) (hop : o.op = Op.next it false) (r b since c0 : Nat) (seen : Array Nat) (es : Array MapEntry) (ck : Nat) (hit : a.eval it = .pointer (some ⟨r, 0, none⟩))
    (hr : w.heap[r]? = some (.mapIter (some b) since seen c0)) (hb : w.heap[b]? = some (.map es ck)) (hold : ∀ x ∈ es.toList, x.born < since) (hsc : since ≤ c0)
    (hDone : (leftOf es seen).size = 0 → wpList P ops Q rest (a.put o.dst (.tuple #[.bool false])) w)
    (hMore : ∀ e ∈ (leftOf es seen).toList, ∀ w1 : World, Drawn w w1 → wpList P ops Q rest (a.put o.dst (.tuple #[.bool true, e.key, e.val])) (Go.ChangeMaps.setBlock w1 r (.mapIter (some b) since (seen.push e.born) ck))) :
    wpList P ops Q (o :: rest) a w := by
  refine wpList_plain hg fun K' hK' => ?_
  unfold Oper.wp
  rcases run_next_at (P := P) w o.type r b since c0 seen es ck hr hb hold hsc with ⟨h0, hrun⟩ | ⟨e, he, w1, h1, hrun⟩
  · simp [execOp, hop, hit, hrun, Result.andThen]
    exact hK' _ _ (hDone h0)
  · simp [execOp, hop, hit, hrun, Result.andThen]
    exact hK' _ _ (hMore e he w1 h1)
end
def nameOf (d : Int) (e : MapEntry) : Option (List UInt8) := match keyName d e.key with
  | some (some s) => some s
  | _ => none
theorem namesE_spec {d : Int} : ∀ {es : List MapEntry} {ns : List (List UInt8)}, namesE d es = some ns → ns = es.filterMap (nameOf d) ∧ ∀ e ∈ es, ∃ x s, e.key = .agg #[.int .i64 x, .string s]
  | [], ns, h => by cases h; exact ⟨rfl, by simp⟩
  | e :: es, ns, h => by
    unfold namesE at h
    have hk : ∀ o, keyName d e.key = some o → ∃ x s, e.key = .agg #[.int .i64 x, .string s] := fun o ho => by
      unfold keyName at ho
      split at ho
      · rename_i cs hcs
        split at ho
        · rename_i x s hl
          refine ⟨x, s, ?_⟩
          rw [hcs]
          congr 1
          cases cs; simp at hl; rw [hl]
        · cases ho
      · cases ho
    cases hn : keyName d e.key with
    | none => rw [hn] at h; cases h
    | some o =>
      rw [hn] at h
      cases o with
      | none =>
        obtain ⟨h1, h2⟩ := namesE_spec h
        refine ⟨by rw [List.filterMap_cons, nameOf, hn]; exact h1, fun x hx => ?_⟩
        rcases List.mem_cons.1 hx with rfl | hx
        · exact hk _ hn
        · exact h2 x hx
      | some s =>
        obtain ⟨l, hl, rfl⟩ := Option.map_eq_some_iff.1 h
        obtain ⟨h1, h2⟩ := namesE_spec hl
        refine ⟨by rw [List.filterMap_cons, nameOf, hn]; simp only; rw [h1], fun x hx => ?_⟩
        rcases List.mem_cons.1 hx with rfl | hx
        · exact hk _ hn
        · exact h2 x hx
theorem nameOf_key {d : Int} {e : MapEntry} {x : Int} {s : ByteArray} (h : e.key = .agg #[.int .i64 x, .string s]) : nameOf d e = if x = d then some s.data.toList else none := by
  unfold nameOf keyName
  rw [h]
  by_cases hx : x = d <;> simp [hx]
theorem left_none {es : Array MapEntry} {seen : Array Nat} (h : (leftOf es seen).size = 0) : ∀ e ∈ es.toList, e.born ∈ seen.toList := fun e he => by
  refine Decidable.byContradiction fun hn => ?_
  have hm : e ∈ (leftOf es seen).toList := by
    unfold leftOf
    simp only [Array.toList_filter, List.mem_filter]
    exact ⟨he, by simpa using hn⟩
  have : (leftOf es seen).toList.length = 0 := by rw [Array.length_toList]; exact h
  rw [List.length_eq_zero_iff.1 this] at hm
  cases hm
theorem left_mem {es : Array MapEntry} {seen : Array Nat} {e : MapEntry} (h : e ∈ (leftOf es seen).toList) : e ∈ es.toList ∧ e.born ∉ seen.toList := by
  unfold leftOf at h
  simp only [Array.toList_filter, List.mem_filter] at h
  exact ⟨h.1, by simpa using h.2⟩
theorem left_less {es : Array MapEntry} {seen : Array Nat} {e : MapEntry} (h : e ∈ (leftOf es seen).toList) : (leftOf es (seen.push e.born)).size < (leftOf es seen).size := by
  rw [← Array.length_toList, ← Array.length_toList]
  obtain ⟨h1, h2⟩ := left_mem h
  unfold leftOf at h ⊢
  rw [Array.toList_filter, Array.toList_filter] at *
  have e1 : (es.toList.filter fun x => !(seen.push e.born).contains x.born) = (es.toList.filter fun x => !seen.contains x.born).filter fun x => !(x.born == e.born) := by
    rw [List.filter_filter]
    apply List.filter_congr
    intro x _
    rw [Bool.eq_iff_iff]
    simp [Array.mem_push, and_comm]
  rw [e1]
  exact List.length_filter_lt_length_iff_exists.2 ⟨e, h, by simp⟩
def leftW (es : Array MapEntry) (r : Nat) (w : World) : Nat := match w.heap[r]? with
  | some (.mapIter _ _ seen _) => (leftOf es seen).size
  | _ => 0
theorem collected_perm {es : List MapEntry} {el : List MapEntry} (hes : (es.map (·.born)).Nodup) (hel : (el.map (·.born)).Nodup) (hsub : ∀ e ∈ el, e ∈ es) (hall : ∀ e ∈ es, e.born ∈ el.map (·.born)) : el.Perm es := by
  have n1 : el.Nodup := by
    refine List.Pairwise.imp ?_ (List.pairwise_map.1 hel)
    intro a b h e
    exact h (by rw [e])
  have n2 : es.Nodup := by
    refine List.Pairwise.imp ?_ (List.pairwise_map.1 hes)
    intro a b h e
    exact h (by rw [e])
  refine (List.perm_ext_iff_of_nodup n1 n2).2 fun a => ⟨hsub a, fun ha => ?_⟩
  obtain ⟨b, hb, hab⟩ := List.mem_map.1 (hall a ha)
  have := Go.Con.Hi.nodup_inj hes (hsub b hb) ha hab
  rw [← this]; exact hb
def SortedW (w : World) (blk : Nat) (ts : List (List UInt8)) (w' : World) : Prop := ∃ n os, w' = grow (putRow encStr (Sort.ahead w n) blk 0 ts.toArray) os
def SortOK : Prop := ∀ (blk cap : Nat) (ss : List (List UInt8)) (w : World) (cur : Array Value), w.heap[blk]? = some (.cells cur 9 (0, 0)) → cur.toList.take ss.length = ss.map encStr → ss.length ≤ cap → ss.length < 4611686018427387904 →
  Calls Tryd.prog 105 #[.slice (some ⟨blk, 0, none⟩) ss.length cap, .func (.func 106) #[] #[]] w fun e w' => e = .returned (.tuple #[]) ∧ SortedW w blk (sortB ss) w'
def SortNil : Prop := ∀ (w : World), Calls Tryd.prog 105 #[.slice none 0 0, .func (.func 106) #[] #[]] w fun e w' => e = .returned (.tuple #[]) ∧ Below w.heap.size w w'
set_option maxHeartbeats 400000 in
theorem names_walk (HS : SortOK) (HN : SortNil) : NamesOK Tryd.prog 68 9 := by
  intro tb bm es ck d ns w hcell hb hnd hborn hsz hns
  obtain ⟨hns, hkey⟩ := namesE_spec hns
  obtain ⟨i0, hi, hz0, hz1, hz2⟩ := info_parts (P := Tryd.prog) (e := 9) (z := .string ⟨#[]⟩) (size := 1) (bytes := 16) (by kernel_rfl)
  have hbl : bm < w.heap.size := (Array.getElem?_eq_some_iff.1 hb).1
  go_enter Tryd.func68, Tryd.ntmps68
  go_wp2_with (first
    | (at_range; refine wl_range _ rfl _ _ _ _ rfl Tryd.underlying115 bm es ck rfl hb ?_)
    | go_in)
  go_frame
  go_loopw [5] (fun v wr => ∃ (el : List MapEntry) (seen : Array Nat) (c0 : Nat), wr.heap[w.heap.size]? = some (.mapIter (some bm) ck seen c0) ∧ ck ≤ c0 ∧ seen.toList = el.map (·.born) ∧ (el.map (·.born)).Nodup ∧ (∀ e ∈ el, e ∈ es.toList) ∧
      wr.heap[bm]? = some (.map es ck) ∧ el.length + (leftOf es seen).size ≤ es.size ∧ wr.ownsRow (w.heap.size + 1) 9 1 v (el.filterMap (nameOf d)).length ((el.filterMap (nameOf d)).map encStr) ∧ ((el.filterMap (nameOf d)).length = 0 → v = .slice none 0 0) ∧ Below w.heap.size w wr)
    (fun _ wr => leftW es w.heap.size wr)
  case atStart =>
    refine ⟨[], #[], ck, by show (w.heap.push _)[w.heap.size]? = _; simp, Nat.le_refl _, rfl, by simp, by simp, ?_, ?_, ⟨rfl, .inl ⟨rfl, rfl⟩⟩, fun _ => rfl, (Below.refl _ _).alloc (Nat.le_refl _) _⟩
    · rw [Below.heap_alloc _ _ _ hbl]; exact hb
    · unfold leftOf; simp; exact Array.size_filter_le
  case round =>
    obtain ⟨el, seen, c0, hr, hc0, hseen, hel, hsub, hb1, hlen, hrow, hvn, hbel⟩ := hrel
    go_wp2_with (first
      | (at_next; refine wl_next _ rfl _ rfl w.heap.size bm ck c0 seen es ck rfl hr hb1 hborn hc0 ?_ ?_)
      | go_in)
    · intro h0
      have h1 := left_none (es := es) (seen := seen) (by rw [h0]; rfl)
      rw [hseen] at h1
      have hperm := (collected_perm hnd hel hsub h1).filterMap (nameOf d)
      rw [← hns] at hperm
      have hnl : (el.filterMap (nameOf d)).length = ns.length := hperm.length_eq
      have hsort : sortB (el.filterMap (nameOf d)) = sortB ns := sortB_uniq ((sortB_perm _).trans hperm) (sortB_sorted _)
      have hsl : (sortB ns).length = ns.length := (sortB_perm ns).length_eq
      have hell : (el.filterMap (nameOf d)).length ≤ el.length := List.length_filterMap_le _ _
      generalize el.filterMap (nameOf d) = ss at hrow hperm hnl hsort hell hvn
      rcases hrow.2 with ⟨rfl, hn0⟩ | ⟨g, cap, cur, rfl, hbase, hb, k1, k2, k3, k4⟩
      · have hnil : ns = [] := List.length_eq_zero_iff.1 (by omega)
        have hc := HN wr
        go_wp2_with (go_at_call 105; refine hc.mono ?_; rintro e w' ⟨rfl, hbw⟩)
        go_ret
        exact ⟨hbel.trans (hbw.mono hbel.size), .inl ⟨hnil, rfl⟩⟩
      · have hc := HS g cap ss wr cur hb (by simpa using k4) k1 (by omega)
        rw [hsort] at hc
        have pk : Nonempty (PLift (ss.length = ns.length ∧ (sortB ns).length = ns.length ∧ cur.size = cap * 1 ∧ cur.toList.take (ss.length * 1) = ss.map encStr ∧ wr.heap[g]? = some (.cells cur 9 (0, 0)))) := ⟨⟨hnl, hsl, k3, k4, hb⟩⟩
        clear hns hnl hsl k3 k4 hsort hseen hb h0
        go_wp2_with (go_at_call 105; refine hc.mono ?_; rintro e w' ⟨rfl, hw'⟩)
        go_ret
        obtain ⟨nn, os, rfl⟩ := hw'
        obtain ⟨⟨hnl, hsl, k3, k4, hb⟩⟩ := pk
        have hfin := hbel.grown (grownBy_sorted (w := wr) (g := g) (n := nn) (os := os) (sortB ns).toArray) hbel.size (fun j hj => by cases hj; omega)
        refine ⟨hfin, ?_⟩
        have hheap := heap_sorted (n := nn) (os := os) (sortB ns).toArray hb
        by_cases hnz : ns = []
        · have := hvn (by rw [hnl, hnz]; rfl)
          cases this
        · refine .inr ⟨g, cap, _, by rw [← hnl]; rfl, hnz, by omega, by omega, hheap, by simp [putCells]; omega, ?_⟩
          have := take_putCells cur (sortB ns) (by omega)
          rw [hsl] at this
          exact this
    · intro e he w1 hw1
      have he := Array.mem_toList_iff.2 he
      obtain ⟨he1, he2⟩ := left_mem he
      obtain ⟨x, nm, hk⟩ := hkey e he1
      have hnm := nameOf_key (d := d) hk
      have hless := left_less he
      rw [hk]
      have hh : w1.heap = wr.heap := by rcases hw1 with rfl | rfl <;> rfl
      have hrl : w.heap.size < wr.heap.size := (Array.getElem?_eq_some_iff.1 hr).1
      have hr2 : (Go.ChangeMaps.setBlock w1 w.heap.size (.mapIter (some bm) ck (seen.push e.born) ck)).heap[w.heap.size]? = some (.mapIter (some bm) ck (seen.push e.born) ck) := by
        simp [Go.ChangeMaps.setBlock, hh, hrl]
      have hg12 : wr.grownBy (Go.ChangeMaps.setBlock w1 w.heap.size (.mapIter (some bm) ck (seen.push e.born) ck)) (some w.heap.size) := by
        refine ⟨by rcases hw1 with rfl | rfl <;> rfl, by rcases hw1 with rfl | rfl <;> rfl, by rcases hw1 with rfl | rfl <;> rfl, by simp [Go.ChangeMaps.setBlock, hh], fun k hk hne => ?_⟩
        have : w.heap.size ≠ k := fun e => hne (by rw [e])
        simp [Go.ChangeMaps.setBlock, hh, this]
      have hb2 := (hg12.block bm (by have := (Array.getElem?_eq_some_iff.1 hb1).1; exact this) (by simp; omega)).trans hb1
      have hen := run_entry_at (P := Tryd.prog) _ w.heap.size bm ck seen es ck e hr2 hb2 he1 hnd
      rw [hk] at hen
      have hbel2 := hbel.grown hg12 hbel.size (fun k e => by cases e; exact Nat.le_refl _)
      have hrow2 := hrow.kept hg12 (by
        rcases hrow.2 with ⟨rfl, _⟩ | ⟨g, cap, cur, rfl, hbase, _⟩
        · exact .inl rfl
        · right; simp [Value.ownBlock]; omega)
      have hlw : ∀ w' : World, w'.heap[w.heap.size]? = some (.mapIter (some bm) ck (seen.push e.born) ck) → leftW es w.heap.size w' < leftW es w.heap.size wr := fun w' h' => by
        unfold leftW; rw [h', hr]; exact hless
      have hcol : (seen.push e.born).toList = (el ++ [e]).map (·.born) := by simp [hseen]
      have hel2 : ((el ++ [e]).map (·.born)).Nodup := by
        rw [List.map_append, List.nodup_append]
        refine ⟨hel, by simp, fun a ha b hb => ?_⟩
        simp at hb
        subst hb
        rintro rfl
        rw [hseen] at he2
        exact he2 ha
      have hsub2 : ∀ y ∈ el ++ [e], y ∈ es.toList := fun y hy => by
        rcases List.mem_append.1 hy with hy | hy
        · exact hsub y hy
        · simp at hy; subst hy; exact he1
      have hlen2 : (el ++ [e]).length + (leftOf es (seen.push e.born)).size ≤ es.size := by rw [List.length_append, List.length_singleton]; omega
      have hell : (el.filterMap (nameOf d)).length ≤ el.length := List.length_filterMap_le _ _
      generalize Go.ChangeMaps.setBlock w1 w.heap.size (.mapIter (some bm) ck (seen.push e.born) ck) = w2 at hr2 hb2 hen hbel2 hrow2 ⊢
      have hrow3 := (hrow2.alloc (.cells #[.int .i64 x, .string nm] 153)).alloc (.cells #[.string nm] 9)
      have hsz2 := hbel2.size
      have hrl2 : w.heap.size < w2.heap.size := (Array.getElem?_eq_some_iff.1 hr2).1
      have hbl2 : bm < w2.heap.size := (Array.getElem?_eq_some_iff.1 hb2).1
      have hnew : ∀ (j : Nat) u, [Value.string nm][j]? = some u → ((w2.alloc (.cells #[.int .i64 x, .string nm] 153)).alloc (.cells #[.string nm] 9)).cell? ((⟨w2.heap.size + 1, 0, none⟩ : Addr).add j) = some u := by
        have h0 := cell_one_new (w2.alloc (.cells #[.int .i64 x, .string nm] 153)) (.string nm) 9
        have e1 : (w2.alloc (.cells #[.int .i64 x, .string nm] 153)).heap.size = w2.heap.size + 1 := by simp
        rw [e1] at h0
        exact h0
      clear hg12 hh hw1
      go_wp2_with (first
        | (at_builtin; refine wpList_append_own _ rfl _ _ 23 rfl (w.heap.size + 1) 9 i0 (.string ⟨#[]⟩) 1 16 Tryd.underlying23 hi hz0 hz1 hz2 rfl (by decide) _ _ _ rfl hrow3 ⟨w2.heap.size + 1, 0, none⟩ 1 1 [.string nm] rfl rfl hnew (fun x hx => by simp at hx; subst hx; rfl) (by unfold maxLen; omega) (by omega) (by simp; omega) ?_; intro v' w3 hown' hgrow3 hnil3)
        | go_in)
      · rename_i hxd
        have hgrow4 : ((w2.alloc (.cells #[.int .i64 x, .string nm] 153)).alloc (.cells #[.string nm] 9)).grownBy w3 (Value.ownBlock u5) := hgrow3
        have hown2 : Value.ownBlock u5 = none ∨ ∃ g, Value.ownBlock u5 = some g ∧ w.heap.size + 1 ≤ g := by
          rcases hrow.2 with ⟨rfl, _⟩ | ⟨g, cap, cur, rfl, hbase, _⟩
          · exact .inl rfl
          · exact .inr ⟨g, rfl, hbase⟩
        have hne : ∀ k, k ≤ w.heap.size → some k ≠ Value.ownBlock u5 := fun k hk e => by
          rcases hown2 with h | ⟨g, h, hg⟩
          · rw [h] at e; cases e
          · rw [h] at e; cases e; omega
        have hold : ∀ k, k ≤ w.heap.size → k < w2.heap.size → w3.heap[k]? = w2.heap[k]? := fun k hk hk2 => by
          rw [hgrow4.block k (by simp; omega) (hne k hk), Below.heap_alloc _ _ _ (by simp; omega), Below.heap_alloc _ _ _ hk2]
        have hr3 := (hold _ (Nat.le_refl _) hrl2).trans hr2
        have hb3 := (hold bm (by omega) hbl2).trans hb2
        have hfm : (el ++ [e]).filterMap (nameOf d) = el.filterMap (nameOf d) ++ [nm.data.toList] := by
          rw [List.filterMap_append]
          congr 1
          rw [List.filterMap_cons, hnm, if_pos (by simpa using hxd)]; rfl
        refine ⟨⟨el ++ [e], _, ck, hr3, Nat.le_refl _, hcol, hel2, hsub2, hb3, hlen2, ?_, ?_, ?_⟩, hlw _ hr3⟩
        · rw [hfm, List.length_append, List.map_append]
          simpa [encStr] using hown'
        · rw [hfm]; simp
        · exact ((hbel2.alloc (by omega) _).alloc (by simp; omega) _).grown hgrow4 (by simp; omega) (fun k hk => by
            rcases hown2 with h | ⟨g, h, hg⟩
            · rw [h] at hk; cases hk
            · rw [h] at hk; cases hk; omega)
      · rename_i hxd
        have hr3 := (Below.heap_alloc w2 (.cells #[.int .i64 x, .string nm] 153) _ hrl2).trans hr2
        have hb3 := (Below.heap_alloc w2 (.cells #[.int .i64 x, .string nm] 153) _ hbl2).trans hb2
        have hfm : (el ++ [e]).filterMap (nameOf d) = el.filterMap (nameOf d) := by
          rw [List.filterMap_append, List.filterMap_cons, hnm, if_neg (by simpa using hxd)]; simp
        refine ⟨⟨el ++ [e], _, ck, hr3, Nat.le_refl _, hcol, hel2, hsub2, hb3, hlen2, ?_, ?_, hbel2.alloc (by omega) _⟩, hlw _ hr3⟩
        · rw [hfm]; exact hrow2.alloc _
        · rw [hfm]; exact hvn
end Go.Proofs.YtncmgiddcefpcaaDoor
