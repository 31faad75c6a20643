/- Texts joined: what the claim needs of them. No condition. -/
import Derived.Test.YtncmgiddcefpcaaGreatDoorBin4
import Derived.Test.YtncmgiddcefpcaaGreatDoorBin8
import Derived.Test.YtncmgiddcefpcaaGreatDoorBin6
namespace Go.Ev
open Go
set_option linter.unusedSimpArgs false
set_option linter.unusedVariables false
theorem Gr.mono {G G' : Nat → Prop} {h : Hp} {v : Value} {e n : Nat} {cs : List Value} (g : Gr G h v e n cs) (hs : ∀ k, G k → G' k) (hl : ∀ k, G' k → k < h.next) : Gr G' h v e n cs := by
  obtain ⟨_, g⟩ := g
  refine ⟨hl, ?_⟩
  rcases g with g | ⟨b, k, base, olds, x, h1, h2, h3, h4, h6, h7, h8, h9⟩
  · exact .inl g
  · exact .inr ⟨b, k, base, olds, x, h1, h2, h3, h4, h6, h7, hs b h8, fun o ho => hs o (h9 o ho)⟩
theorem write_gr {G : Nat → Prop} {h : Hp} {v : Value} {e n : Nat} {cs vs : List Value} (g : Gr G h v e n cs) {o : Nat} (ho : o + vs.length ≤ cs.length) (h1 : 1 ≤ vs.length) (hc : vs.all isCell = true) :
    ∃ b k c h', v = .slice (some ⟨b, 0, none⟩) k c ∧ k ≤ c / 2 ∧ cs.length = k * n ∧ G b ∧ writeAt h b o vs = some h' ∧ Gr G h' v e n (splice cs o vs) ∧ h'.next = h.next ∧ ∀ c, ¬ G c → h'.get c = h.get c := by
  obtain ⟨gl, g⟩ := g
  rcases g with ⟨_, rfl⟩ | ⟨b, k, base, olds, x, rfl, hx, hk, hk1, hg, hbase, hb0, holds⟩
  · have : vs = [] := by simp at ho; exact ho.2
    rw [this] at h1; simp at h1
  · by_cases hbo : base ≤ o
    · have key : writeAt h b o vs = some (h.set b (.row (splice cs o vs) e (.rw base olds))) := by
        unfold writeAt
        simp only [hg, decide_eq_true ho, hc, Bool.and_self, cond_true, decide_eq_true hbo]
      exact ⟨b, k, _, _, rfl, by omega, hk, hb0, key, ⟨gl, .inr ⟨b, k, base, olds, x, rfl, hx, by rw [splice_length ho]; exact hk, hk1, Hp.get_set_self _ _ _, by rw [splice_length ho]; exact hbase, hb0, holds⟩⟩, rfl,
        fun c hc => Hp.get_set_ne (by rintro rfl; exact hc hb0)⟩
    · have key : writeAt h b o vs = some ((kill h olds).set b (.row (splice cs o vs) e (.rw 0 []))) := by
        unfold writeAt
        simp only [hg, decide_eq_true ho, hc, Bool.and_self, cond_true, decide_eq_false hbo, cond_false]
      refine ⟨b, k, _, _, rfl, by omega, hk, hb0, key, ⟨fun j hj => ?_, .inr ⟨b, k, 0, [], x, rfl, hx, by rw [splice_length ho]; exact hk, hk1, Hp.get_set_self _ _ _, by rw [splice_length ho]; omega, hb0, by simp⟩⟩, ?_, fun c hc => ?_⟩
      · rw [Hp.next_set, kill_next]; exact gl j hj
      · rw [Hp.next_set, kill_next]
      · rw [Hp.get_set_ne (by rintro rfl; exact hc hb0), kill_get, if_neg (fun hm => hc (holds c hm))]
theorem Gr.row {G : Nat → Prop} {h : Hp} {v : Value} {e n : Nat} {cs : List Value} (g : Gr G h v e n cs) (hn : cs ≠ []) : ∃ b k c, v = .slice (some ⟨b, 0, none⟩) k c ∧ k ≤ c / 2 ∧ cs.length = k * n ∧ G b ∧ b < h.next ∧ rowOf h b = some cs := by
  obtain ⟨gl, g⟩ := g
  rcases g with ⟨_, rfl⟩ | ⟨b, k, base, olds, x, rfl, hx, hk, hk1, hg, hbase, hb0, holds⟩
  · exact absurd rfl hn
  · exact ⟨b, k, _, rfl, by omega, hk, hb0, gl b hb0, rowOf_rw hg⟩
theorem Gr.cell {G : Nat → Prop} {h : Hp} {v : Value} {e n : Nat} {cs : List Value} (g : Gr G h v e n cs) : isCell v = true ∧ v.cells = #[v] := by
  obtain ⟨_, ⟨rfl, _⟩ | ⟨b, k, base, olds, x, rfl, _⟩⟩ := g <;> exact ⟨rfl, rfl⟩
theorem splice_get {cs vs : List Value} {o : Nat} (h : o + vs.length ≤ cs.length) (k : Nat) : (splice cs o vs)[k]? = if k < o then cs[k]? else if k < o + vs.length then vs[k - o]? else cs[k]? := by
  unfold splice
  have h1 : (cs.take o).length = o := by rw [List.length_take]; omega
  by_cases h2 : k < o
  · rw [if_pos h2, List.getElem?_append_left (by rw [List.length_append]; omega), List.getElem?_append_left (by omega), List.getElem?_take, if_pos h2]
  · rw [if_neg h2]
    by_cases h3 : k < o + vs.length
    · rw [if_pos h3, List.getElem?_append_left (by rw [List.length_append]; omega), List.getElem?_append_right (by omega), h1]
    · rw [if_neg h3, List.getElem?_append_right (by rw [List.length_append]; omega), List.length_append, h1, List.getElem?_drop]
      congr 1; omega
theorem part_get {cs : List Value} {a n k : Nat} : ((cs.drop a).take n)[k]? = if k < n then cs[a + k]? else none := by
  rw [List.getElem?_take]; split
  · rw [List.getElem?_drop]
  · rfl
theorem splice_in {cs vs : List Value} {a j n : Nat} (h1 : j + vs.length ≤ n) (h2 : a + n ≤ cs.length) : ((splice cs (a + j) vs).drop a).take n = splice ((cs.drop a).take n) j vs := by
  apply List.ext_getElem?; intro k
  rw [part_get, splice_get (by omega), splice_get (o := j) (by rw [List.length_take, List.length_drop]; omega), part_get]
  by_cases hk : k < n
  · rw [if_pos hk, if_pos hk]
    by_cases h3 : k < j
    · rw [if_pos (by omega), if_pos h3]
    · rw [if_neg (by omega), if_neg h3]
      by_cases h4 : k < j + vs.length
      · rw [if_pos (by omega), if_pos h4]; congr 1; omega
      · rw [if_neg (by omega), if_neg h4]
  · rw [if_neg hk, if_neg hk, if_neg (by omega), if_neg (by omega)]
theorem splice_out {cs vs : List Value} {a a' n m : Nat} (h : a + vs.length ≤ cs.length) (h1 : a' + n ≤ a - m ∨ a + vs.length ≤ a') (hm : m ≤ a) : ((splice cs a vs).drop a').take n = (cs.drop a').take n := by
  apply List.ext_getElem?; intro k
  rw [part_get, part_get, splice_get h]
  by_cases hk : k < n
  · rw [if_pos hk, if_pos hk]
    rcases h1 with h1 | h1
    · rw [if_pos (by omega)]
    · rw [if_neg (by omega), if_neg (by omega)]
  · rw [if_neg hk, if_neg hk]
theorem append_gr0 {P : Program} {t e n by_ : Nat} {z : Value} (h1 : tSliceElem P t = some e) (h2 : tSize P e = some n) (h3 : tBytes P e = some by_) (h4 : tZero P e = some z) (h5 : (flat z && Nat.beq z.cells.size n) = true) (hn : 1 ≤ n)
    {G : Nat → Prop} {h : Hp} {v x : Value} {cs new : List Value} (g : Gr G h v e n cs) {j : Nat} (hx : lenOf x = some j) (hc : evCells n j x h = some new) (hl : new.length = j * n)
    (hcell : new.all isCell = true) (hbig : (2 * (cs.length + j) + 1024) * (by_ + 1) ≤ 2 ^ 47) :
    ∃ v' h', evAppend P t v x h = some (v', h') ∧ Gr (fun k => G k ∨ (h.next ≤ k ∧ k < h'.next)) h' v' e n (cs ++ new) ∧ h.next ≤ h'.next ∧ h'.next ≤ h.next + 1 ∧ ∀ c, c < h.next → ¬ G c → h'.get c = h.get c := by
  by_cases hj : 1 ≤ j
  · obtain ⟨v', h', a, b, c, d⟩ := append_gr h1 h2 h3 h4 h5 hn g hx hc hj hl hcell hbig
    refine ⟨v', h', a, b.mono (fun k hk => ?_) fun k hk => ?_, by omega, by omega, d⟩
    · rcases hk with hk | hk
      · exact .inl hk
      · exact .inr (by omega)
    · rcases hk with hk | hk
      · exact Nat.lt_of_lt_of_le (g.lt hk) (by omega)
      · exact hk.2
  · have hj : j = 0 := by omega
    subst hj
    have hnew : new = [] := List.length_eq_zero_iff.1 (by omega)
    subst hnew
    refine ⟨v, h, ?_, ?_, Nat.le_refl _, Nat.le_succ _, fun _ _ _ => rfl⟩
    · simp only [Bool.and_eq_true] at h5
      have h6 : (z.cells.size == n) = true := by have := Nat.eq_of_beq_eq_true h5.2; simpa using this
      rcases g with ⟨gl, ⟨rfl, rfl⟩ | ⟨b, k, base, olds, y, rfl, hy, hk, hk1, hg, hbase, hb0, holds⟩⟩
      · unfold evAppend
        simp only [h1, h2, h3, h4, hx, Option.bind_some, h6, h5.1, Bool.and_self, Bool.not_true, cond_false, BEq.rfl, cond_true]
      · unfold evAppend
        simp only [h1, h2, h3, h4, hx, Option.bind_some, h6, h5.1, Bool.and_self, Bool.not_true, cond_false, BEq.rfl, cond_true]
    · rw [List.append_nil]
      refine g.mono (fun k hk => .inl hk) fun k hk => ?_
      rcases hk with hk | hk
      · exact g.lt hk
      · exact hk.2
def Fresh (h0 : Nat) (h : Hp) (v : Value) (e n : Nat) (cs : List Value) : Prop := ∃ G, Gr G h v e n cs ∧ ∀ k, G k → h0 ≤ k
theorem Fresh.nil (h0 : Nat) (h : Hp) (e n : Nat) : Fresh h0 h (.slice none 0 0) e n [] := ⟨_, Gr.nil h e n, fun _ hk => hk.elim⟩
theorem Fresh.slAt {h0 : Nat} {h : Hp} {v : Value} {e n : Nat} {cs : List Value} (g : Fresh h0 h v e n cs) : SlAt h n v cs := by obtain ⟨G, g, _⟩ := g; exact g.slAt
theorem Fresh.cell {h0 : Nat} {h : Hp} {v : Value} {e n : Nat} {cs : List Value} (g : Fresh h0 h v e n cs) : isCell v = true ∧ v.cells = #[v] := by obtain ⟨G, g, _⟩ := g; exact g.cell
theorem Fresh.keeps {h0 : Nat} {h h' : Hp} {v : Value} {e n : Nat} {cs : List Value} (g : Fresh h0 h v e n cs) (k : Keep h h') : Fresh h0 h' v e n cs := by obtain ⟨G, g, hG⟩ := g; exact ⟨G, g.keeps k, hG⟩
theorem Fresh.gr {h0 : Nat} {h : Hp} {v : Value} {e n : Nat} {cs : List Value} (g : Fresh h0 h v e n cs) : Gr (fun k => h0 ≤ k ∧ k < h.next) h v e n cs := by obtain ⟨G, g, hG⟩ := g; exact g.mono (fun k hk => ⟨hG k hk, g.lt hk⟩) fun k hk => hk.2
end Go.Ev
namespace Go.Proofs.YtncmgiddcefpcaaGreatDoor
open Go Go.Ev Go.Con
set_option linter.unusedSimpArgs false
set_option linter.unusedVariables false
set_option maxRecDepth 100000
def BnRow (h : Hp) (G : Nat → Prop) (B : List Bn) (cs : List Value) : Prop := cs.length = B.length * 10 ∧ ∀ i x, B[i]? = some x → ∃ sl, (cs.drop (i * 10)).take 10 = bnC x sl ∧ TmTy h G sl x.acl
structure RefB (h : Hp) (c : Nat → Nat) (T : Hi) (br : Nat) (vB vL vD : Value) (cs : List Value) : Prop where
  row : h.get br = some (.row [vB, vL, vD] 97 (.rw 0 []))
  me : c br = 1
  b : Gr (fun k => c k = 2) h vB 34 10 cs
  bn : BnRow h (fun k => c k = 5) T.B cs
  l : Gr (fun k => c k = 3) h vL 126 3 (ens T.L)
  d : Gr (fun k => c k = 4) h vD 4 1 (T.D.map Value.bool)
  lt : ∀ k, c k ≠ 0 → k < h.next
def RefAt (h : Hp) (F : Nat → Prop) (T : Hi) (br : Nat) : Prop := ∃ c vB vL vD cs, (∀ k, F k ↔ c k ≠ 0) ∧ RefB h c T br vB vL vD cs ∧ T.Ok ∧ ∀ i, (T.br i).acl.length ≤ 1000000000
theorem SlTy.keepF {h h' : Hp} {F : Nat → Prop} {e n : Nat} {v : Value} {cs : List Value} (s : SlTy h F e n v cs) (hn : h.next ≤ h'.next) (hs : ∀ k, F k → h'.get k = h.get k) : SlTy h' F e n v cs := by
  rcases s with s | ⟨b, o, k, c, all, st, h1, h2, hF, h3, h4, h5⟩
  · exact .inl s
  · exact .inr ⟨b, o, k, c, all, st, h1, h2, hF, Nat.lt_of_lt_of_le h3 hn, by rw [hs b hF]; exact h4, h5⟩
theorem BnRow.keep {h h' : Hp} {G : Nat → Prop} {B : List Bn} {cs : List Value} (s : BnRow h G B cs) (hn : h.next ≤ h'.next) (hs : ∀ k, G k → h'.get k = h.get k) : BnRow h' G B cs :=
  ⟨s.1, fun i x hx => by obtain ⟨sl, h1, h2⟩ := s.2 i x hx; exact ⟨sl, h1, SlTy.keepF h2 hn hs⟩⟩
section
variable {h h' : Hp} {c : Nat → Nat} {T : Hi} {br : Nat} {vB vL vD : Value} {cs : List Value}
theorem RefB.keep (r : RefB h c T br vB vL vD cs) (hn : h.next ≤ h'.next) (hs : ∀ k, c k ≠ 0 → h'.get k = h.get k) : RefB h' c T br vB vL vD cs :=
  ⟨by rw [hs br (by rw [r.me]; decide)]; exact r.row, r.me, r.b.keep hn fun k hk => hs k (by rw [hk]; decide), r.bn.keep hn fun k hk => hs k (by rw [hk]; decide), r.l.keep hn fun k hk => hs k (by rw [hk]; decide),
    r.d.keep hn fun k hk => hs k (by rw [hk]; decide), fun k hk => Nat.lt_of_lt_of_le (r.lt k hk) hn⟩
theorem RefB.keeps (r : RefB h c T br vB vL vD cs) (k : Keep h h') : RefB h' c T br vB vL vD cs := r.keep k.1 fun j hj => k.2 j (r.lt j hj)
theorem RefB.lb (r : RefB h c T br vB vL vD cs) : br < h.next := r.lt _ (by rw [r.me]; decide)
theorem RefB.rw (r : RefB h c T br vB vL vD cs) : rowOf h br = some [vB, vL, vD] := rowOf_rw r.row
theorem RefB.en (r : RefB h c T br vB vL vD cs) : EnSl h vL T.L := r.l.slAt
theorem RefB.bo (r : RefB h c T br vB vL vD cs) : BoSl h vD T.D := r.d.slAt
theorem RefB.bs (r : RefB h c T br vB vL vD cs) : BnSl h (fun k => c k = 5) vB T.B := ⟨cs, r.b.slAt, r.bn.1, r.bn.2⟩
theorem RefB.at (r : RefB h c T br vB vL vD cs) (hl : T.L.length ≤ 1000000000) (d : Int) (n : ByteArray) : Meets kon 80 [ptrV br, .int .i64 d, .string n] h fun v h' => v = .int .i64 (atI T.L d n) ∧ h' = h := rAt_spec r.rw r.en hl d n
theorem RefB.dir (r : RefB h c T br vB vL vD cs) (d : Int) : Meets kon 95 [ptrV br, .int .i64 d] h fun v h' => v = .bool (T.is d) ∧ h' = h := rDir_spec r.rw r.bo d
theorem RefB.uid (r : RefB h c T br vB vL vD cs) (ok : T.Ok) (hl : T.L.length ≤ 1000000000) (u : Int) : Meets kon 97 [ptrV br, .int .i64 u] h fun v h' => v = .int .i64 (uidI (T.seg u)) ∧ h' = h := rUid_spec r.rw r.en r.bs hl ok.ids u
theorem RefB.many (r : RefB h c T br vB vL vD cs) (hl : T.L.length ≤ 1000000000) (j : Nat) : Meets kon 81 [ptrV br, .int .i64 j] h fun v h' => v = .int .i64 (T.many j) ∧ h' = h := rNames_spec (T := T) r.rw r.en hl j
end
section
variable {T : Hi}
theorem atI_none {d : Int} {s : ByteArray} (h : T.get d s = none) : atI T.L d s = -1 := by
  unfold atI
  have : T.L.findIdx? (fun e => decide (e.key = (d, s))) = none := by
    rw [List.findIdx?_eq_none_iff]; intro e he; simpa using Hi.get_none.1 h e he
  rw [this]
theorem atI_some {d : Int} {s : ByteArray} {i : Nat} (h : T.get d s = some i) : ∃ (k : Nat) (e : En), atI T.L d s = (k : Int) ∧ T.L[k]? = some e ∧ e.id = i ∧ e.key = (d, s) ∧ e ∈ T.L := by
  unfold atI
  cases hf : T.L.findIdx? (fun e => decide (e.key = (d, s))) with
  | none =>
    rw [List.findIdx?_eq_none_iff] at hf
    have : T.get d s = none := Hi.get_none.2 fun e he => by simpa using hf e he
    rw [this] at h; cases h
  | some k =>
    obtain ⟨h1, h2, h3⟩ := List.findIdx?_eq_some_iff_getElem.1 hf
    refine ⟨k, T.L[k], rfl, List.getElem?_eq_getElem h1, ?_, by simpa using h2, List.getElem_mem h1⟩
    unfold Hi.get Hi.getF at h
    have : T.L.find? (fun e => decide (e.key = (d, s))) = some T.L[k] := by
      rw [List.find?_eq_some_iff_getElem]
      exact ⟨h2, k, h1, rfl, fun j hj => by have := h3 j hj; simpa using this⟩
    rw [this] at h
    simpa using h
theorem atI_ge {d : Int} {s : ByteArray} : decide (0 ≤ atI T.L d s) = (T.get d s).isSome := by
  cases hg : T.get d s with
  | none => rw [atI_none hg]; rfl
  | some i => obtain ⟨k, e, h1, _⟩ := atI_some hg; rw [h1]; simp
theorem atI_lt {d : Int} {s : ByteArray} : decide (atI T.L d s < 0) = (T.get d s).isNone := by
  cases hg : T.get d s with
  | none => rw [atI_none hg]; rfl
  | some i => obtain ⟨k, e, h1, _⟩ := atI_some hg; rw [h1]; simp
theorem uidI_ge {o : Option Nat} : decide (0 ≤ uidI o) = o.isSome := by cases o <;> simp [uidI]
end
section
variable {h : Hp} {c : Nat → Nat} {T : Hi} {br : Nat} {vB vL vD : Value} {cs : List Value}
theorem rCan_spec (r : RefB h c T br vB vL vD cs) (ok : T.Ok) (hL : T.L.length ≤ 1000000000) {b : Bn} {sl : Value} (hs : TmSl h sl b.acl) (hl : b.acl.length ≤ 1000000000) (d : Int) (s : ByteArray) :
    Meets kon 63 [ptrV br, .int .i64 d, .string s, .agg (bnC b sl).toArray] h fun v h' => v = .int .i64 (T.why d s b) ∧ Keep h h' := by
  have hsc : isCell sl = true := by rcases hs with ⟨rfl, _⟩ | ⟨b, o, k, c, all, rfl, _⟩ <;> rfl
  have hcv : sl.cells = #[sl] := by rcases hs with ⟨rfl, _⟩ | ⟨b, o, k, c, all, rfl, _⟩ <;> rfl
  unfold bnC ptrV
  refine Meets.mk rfl (by kernel_rfl) Tryz.func63 rfl (congrArg Array.toList Tryz.results63) ?_
  repeat' (first | simp only [evr, nextP_norm, evd, evq, beq_self_eq_true, cond_true, cond_false, reduceIte, Nat.reduceEqDiff, Nat.reduceAdd, Int.reduceBNe, Int.reduceBEq, Int.reduceLT, Int.reduceLE, Int.reduceEq, evh, evp, Nat.reduceLeDiff, Nat.reduceSub, Nat.reduceBEq, typs, hsc, hcv] | refine kCond2_by (fun hc => ?_) (fun hc => ?_) <;> try simp only [hc] | refine kPick_by (fun hc => ?_) (fun hc => ?_) <;> try simp only [hc] | refine kWant_by (fun hc => ?_) (fun hc => ?_) <;> try simp only [hc])
  generalize hh : Hp.push h _ = H
  have g3 : H.get h.next = some (.row [.int .i64 b.kind, .int .i64 b.uid, .int .i64 b.dir, .string b.link, .bool b.object, sl, .int .i64 b.b.r1, .int .i64 b.b.r2, .int .i64 b.b.r3, .int .i64 b.b.g] 34 (.rw 0 [])) := by rw [← hh]; exact Hp.get_push_self _ _
  have hk : Keep h H := by rw [← hh]; exact Keep.push _ _
  have hx : H.next = h.next + 1 := by rw [← hh]; rfl
  clear hh
  have rH := r.keeps hk
  have cd := (rH.dir d).call
  have ca := (rH.at hL d s).call
  have cn := (nameMay_spec s H).call
  have cl := (refListMay_spec (SlAt.keep hs hk) hl).call
  have q3 := rowOf_rw g3
  unfold ptrV at cd ca
  unfold Hi.why
  have Hk := hk
  cases h1 : T.is d with
  | false => rw [h1] at cd; repeat' (first | simp only [evr, nextP_norm, evd, evq, beq_self_eq_true, cond_true, cond_false, reduceIte, Nat.reduceEqDiff, Nat.reduceAdd, Int.reduceBNe, Int.reduceBEq, Int.reduceLT, Int.reduceLE, Int.reduceEq, evh, evp, Nat.reduceLeDiff, Nat.reduceSub, Nat.reduceBEq, typs, cd] | refine kCond2_by (fun hc => ?_) (fun hc => ?_) <;> try simp only [hc] | refine kPick_by (fun hc => ?_) (fun hc => ?_) <;> try simp only [hc] | refine kWant_by (fun hc => ?_) (fun hc => ?_) <;> try simp only [hc]); first | exact hk | exact ⟨rfl, hk⟩
  | true =>
  rw [h1] at cd
  cases h2 : mayN s with
  | false => rw [h2] at cn; repeat' (first | simp only [evr, nextP_norm, evd, evq, beq_self_eq_true, cond_true, cond_false, reduceIte, Nat.reduceEqDiff, Nat.reduceAdd, Int.reduceBNe, Int.reduceBEq, Int.reduceLT, Int.reduceLE, Int.reduceEq, evh, evp, Nat.reduceLeDiff, Nat.reduceSub, Nat.reduceBEq, typs, cd, cn] | refine kCond2_by (fun hc => ?_) (fun hc => ?_) <;> try simp only [hc] | refine kPick_by (fun hc => ?_) (fun hc => ?_) <;> try simp only [hc] | refine kWant_by (fun hc => ?_) (fun hc => ?_) <;> try simp only [hc]); first | exact hk | exact ⟨rfl, hk⟩
  | true =>
  rw [h2] at cn
  cases h3 : T.get d s with
  | some i =>
    have ge : decide (0 ≤ atI T.L d s) = true := by rw [atI_ge, h3]; rfl
    repeat' (first | simp only [evr, nextP_norm, evd, evq, beq_self_eq_true, cond_true, cond_false, reduceIte, Nat.reduceEqDiff, Nat.reduceAdd, Int.reduceBNe, Int.reduceBEq, Int.reduceLT, Int.reduceLE, Int.reduceEq, evh, evp, Nat.reduceLeDiff, Nat.reduceSub, Nat.reduceBEq, typs, cd, cn, ca, ge] | refine kCond2_by (fun hc => ?_) (fun hc => ?_) <;> try simp only [hc] | refine kPick_by (fun hc => ?_) (fun hc => ?_) <;> try simp only [hc] | refine kWant_by (fun hc => ?_) (fun hc => ?_) <;> try simp only [hc]); first | exact hk | exact ⟨rfl, hk⟩
  | none =>
  have ge : decide (0 ≤ atI T.L d s) = false := by rw [atI_ge, h3]; rfl
  have e0 : (if true = false then (4 : Int) else if true = false then 3 else if (Option.isSome (none : Option Nat)) = true then 5 else T.cleanE b) = T.cleanE b := rfl
  rw [e0]
  by_cases k1 : b.kind = 1
  · have f0 : decide (b.kind < 1) = false := decide_eq_false (by omega)
    have f0' : decide (3 < b.kind) = false := decide_eq_false (by omega)
    have f1 : (b.kind == 1) = true := by simp [k1]
    have ce : T.cleanE b = if b.uid < 1 ∨ listMay b.acl = false ∨ bkMay b.b = false then 1 else if (T.seg b.uid).isSome then 5 else 0 := by unfold Hi.cleanE; rw [if_pos k1]
    rw [ce]
    by_cases hu : b.uid < 1
    · have f2 : decide (b.uid < 1) = true := decide_eq_true hu
      repeat' (first | simp only [evr, nextP_norm, evd, evq, beq_self_eq_true, cond_true, cond_false, reduceIte, Nat.reduceEqDiff, Nat.reduceAdd, Int.reduceBNe, Int.reduceBEq, Int.reduceLT, Int.reduceLE, Int.reduceEq, evh, evp, Nat.reduceLeDiff, Nat.reduceSub, Nat.reduceBEq, typs, cd, cn, ca, ge, q3, g3, f0, f0', f1, f2] | refine kCond2_by (fun hc => ?_) (fun hc => ?_) <;> try simp only [hc] | refine kPick_by (fun hc => ?_) (fun hc => ?_) <;> try simp only [hc] | refine kWant_by (fun hc => ?_) (fun hc => ?_) <;> try simp only [hc])
      exact ⟨by simp [hu], hk⟩
    · have f2 : decide (b.uid < 1) = false := decide_eq_false hu
      cases h4 : listMay b.acl with
      | false =>
        rw [h4] at cl
        repeat' (first | simp only [evr, nextP_norm, evd, evq, beq_self_eq_true, cond_true, cond_false, reduceIte, Nat.reduceEqDiff, Nat.reduceAdd, Int.reduceBNe, Int.reduceBEq, Int.reduceLT, Int.reduceLE, Int.reduceEq, evh, evp, Nat.reduceLeDiff, Nat.reduceSub, Nat.reduceBEq, typs, cd, cn, ca, ge, q3, g3, f0, f0', f1, f2, cl] | refine kCond2_by (fun hc => ?_) (fun hc => ?_) <;> try simp only [hc] | refine kPick_by (fun hc => ?_) (fun hc => ?_) <;> try simp only [hc] | refine kWant_by (fun hc => ?_) (fun hc => ?_) <;> try simp only [hc])
        exact ⟨by simp, hk⟩
      | true =>
      rw [h4] at cl
      have k2 : Keep h (H.push (obB b.b)) := hk.pushed
      have r2 := r.keeps k2
      have cu := (r2.uid ok hL b.uid).call
      have cr := (refRingMayX b.b H).call
      unfold ptrV at cu
      have q4 : rowOf (H.push (obB b.b)) h.next = some [.int .i64 b.kind, .int .i64 b.uid, .int .i64 b.dir, .string b.link, .bool b.object, sl, .int .i64 b.b.r1, .int .i64 b.b.r2, .int .i64 b.b.r3, .int .i64 b.b.g] := rowOf_rw ((Hp.get_push_lt (by omega)).trans g3)
      unfold obB at cr cu q4 k2
      cases h5 : bkMay b.b with
      | false =>
        rw [h5] at cr
        repeat' (first | simp only [evr, nextP_norm, evd, evq, beq_self_eq_true, cond_true, cond_false, reduceIte, Nat.reduceEqDiff, Nat.reduceAdd, Int.reduceBNe, Int.reduceBEq, Int.reduceLT, Int.reduceLE, Int.reduceEq, evh, evp, Nat.reduceLeDiff, Nat.reduceSub, Nat.reduceBEq, typs, cd, cn, ca, ge, q3, g3, f0, f0', f1, f2, cl, cr] | refine kCond2_by (fun hc => ?_) (fun hc => ?_) <;> try simp only [hc] | refine kPick_by (fun hc => ?_) (fun hc => ?_) <;> try simp only [hc] | refine kWant_by (fun hc => ?_) (fun hc => ?_) <;> try simp only [hc])
        exact ⟨by simp, k2⟩
      | true =>
      rw [h5] at cr
      cases h6 : T.seg b.uid with
      | some i =>
        have gu : decide (0 ≤ uidI (T.seg b.uid)) = true := by rw [uidI_ge, h6]; rfl
        rw [h6] at cu gu
        repeat' (first | simp only [evr, nextP_norm, evd, evq, beq_self_eq_true, cond_true, cond_false, reduceIte, Nat.reduceEqDiff, Nat.reduceAdd, Int.reduceBNe, Int.reduceBEq, Int.reduceLT, Int.reduceLE, Int.reduceEq, evh, evp, Nat.reduceLeDiff, Nat.reduceSub, Nat.reduceBEq, typs, cd, cn, ca, ge, q3, g3, f0, f0', f1, f2, cl, cr, cu, gu, q4] | refine kCond2_by (fun hc => ?_) (fun hc => ?_) <;> try simp only [hc] | refine kPick_by (fun hc => ?_) (fun hc => ?_) <;> try simp only [hc] | refine kWant_by (fun hc => ?_) (fun hc => ?_) <;> try simp only [hc])
        exact ⟨by simp [hu], k2⟩
      | none =>
        have gu : decide (0 ≤ uidI (T.seg b.uid)) = false := by rw [uidI_ge, h6]; rfl
        have f3 : (b.kind == 3) = false := by simp [k1]
        rw [h6] at cu gu
        repeat' (first | simp only [evr, nextP_norm, evd, evq, beq_self_eq_true, cond_true, cond_false, reduceIte, Nat.reduceEqDiff, Nat.reduceAdd, Int.reduceBNe, Int.reduceBEq, Int.reduceLT, Int.reduceLE, Int.reduceEq, evh, evp, Nat.reduceLeDiff, Nat.reduceSub, Nat.reduceBEq, typs, cd, cn, ca, ge, q3, g3, f0, f0', f1, f2, f3, cl, cr, cu, gu, q4] | refine kCond2_by (fun hc => ?_) (fun hc => ?_) <;> try simp only [hc] | refine kPick_by (fun hc => ?_) (fun hc => ?_) <;> try simp only [hc] | refine kWant_by (fun hc => ?_) (fun hc => ?_) <;> try simp only [hc])
        exact ⟨by simp [hu], k2⟩
  · have f1 : (b.kind == 1) = false := by simp [k1]
    by_cases k2 : b.kind = 2
    · have f0 : decide (b.kind < 1) = false := decide_eq_false (by omega)
      have f0' : decide (3 < b.kind) = false := decide_eq_false (by omega)
      have f3 : (b.kind == 3) = false := by simp [k2]
      have ce : T.cleanE b = 0 := by unfold Hi.cleanE; rw [if_neg k1, if_pos k2]
      rw [ce]
      repeat' (first | simp only [evr, nextP_norm, evd, evq, beq_self_eq_true, cond_true, cond_false, reduceIte, Nat.reduceEqDiff, Nat.reduceAdd, Int.reduceBNe, Int.reduceBEq, Int.reduceLT, Int.reduceLE, Int.reduceEq, evh, evp, Nat.reduceLeDiff, Nat.reduceSub, Nat.reduceBEq, typs, cd, cn, ca, ge, q3, g3, f0, f0', f1, f3] | refine kCond2_by (fun hc => ?_) (fun hc => ?_) <;> try simp only [hc] | refine kPick_by (fun hc => ?_) (fun hc => ?_) <;> try simp only [hc] | refine kWant_by (fun hc => ?_) (fun hc => ?_) <;> try simp only [hc])
      first | exact hk | exact ⟨rfl, hk⟩
    · by_cases k3 : b.kind = 3
      · have f0 : decide (b.kind < 1) = false := decide_eq_false (by omega)
        have f0' : decide (3 < b.kind) = false := decide_eq_false (by omega)
        have f3 : (b.kind == 3) = true := by simp [k3]
        have ce : T.cleanE b = if (split b.link).isSome then 0 else 3 := by unfold Hi.cleanE; rw [if_neg k1, if_neg k2, if_pos k3]
        rw [ce]
        repeat' (first | simp only [evr, nextP_norm, evd, evq, beq_self_eq_true, cond_true, cond_false, reduceIte, Nat.reduceEqDiff, Nat.reduceAdd, Int.reduceBNe, Int.reduceBEq, Int.reduceLT, Int.reduceLE, Int.reduceEq, evh, evp, Nat.reduceLeDiff, Nat.reduceSub, Nat.reduceBEq, typs, cd, cn, ca, ge, q3, g3, f0, f0', f1, f3] | refine kCond2_by (fun hc => ?_) (fun hc => ?_) <;> try simp only [hc] | refine kPick_by (fun hc => ?_) (fun hc => ?_) <;> try simp only [hc] | refine kWant_by (fun hc => ?_) (fun hc => ?_) <;> try simp only [hc])
        refine callP_meets (rsplit_spec b.link H) ?_
        rintro v h2 ⟨k4, hv⟩
        have k5 := hk.trans k4
        cases hsp : split b.link with
        | none =>
          rw [hsp] at hv
          simp only at hv
          subst hv
          repeat' (first | simp only [evr, nextP_norm, evd, evq, beq_self_eq_true, cond_true, cond_false, reduceIte, Nat.reduceEqDiff, Nat.reduceAdd, Int.reduceBNe, Int.reduceBEq, Int.reduceLT, Int.reduceLE, Int.reduceEq, evh, evp, Nat.reduceLeDiff, Nat.reduceSub, Nat.reduceBEq, typs] | refine kCond2_by (fun hc => ?_) (fun hc => ?_) <;> try simp only [hc] | refine kPick_by (fun hc => ?_) (fun hc => ?_) <;> try simp only [hc] | refine kWant_by (fun hc => ?_) (fun hc => ?_) <;> try simp only [hc])
          exact ⟨rfl, k5⟩
        | some ps =>
          rw [hsp] at hv
          obtain ⟨sl2, rfl, _⟩ := hv
          repeat' (first | simp only [evr, nextP_norm, evd, evq, beq_self_eq_true, cond_true, cond_false, reduceIte, Nat.reduceEqDiff, Nat.reduceAdd, Int.reduceBNe, Int.reduceBEq, Int.reduceLT, Int.reduceLE, Int.reduceEq, evh, evp, Nat.reduceLeDiff, Nat.reduceSub, Nat.reduceBEq, typs] | refine kCond2_by (fun hc => ?_) (fun hc => ?_) <;> try simp only [hc] | refine kPick_by (fun hc => ?_) (fun hc => ?_) <;> try simp only [hc] | refine kWant_by (fun hc => ?_) (fun hc => ?_) <;> try simp only [hc])
          exact ⟨rfl, k5⟩
      · have ce : T.cleanE b = 15 := by unfold Hi.cleanE; rw [if_neg k1, if_neg k2, if_neg k3]
        rw [ce]
        by_cases k0 : b.kind < 1
        · have f0 : decide (b.kind < 1) = true := decide_eq_true k0
          repeat' (first | simp only [evr, nextP_norm, evd, evq, beq_self_eq_true, cond_true, cond_false, reduceIte, Nat.reduceEqDiff, Nat.reduceAdd, Int.reduceBNe, Int.reduceBEq, Int.reduceLT, Int.reduceLE, Int.reduceEq, evh, evp, Nat.reduceLeDiff, Nat.reduceSub, Nat.reduceBEq, typs, cd, cn, ca, ge, q3, g3, f0] | refine kCond2_by (fun hc => ?_) (fun hc => ?_) <;> try simp only [hc] | refine kPick_by (fun hc => ?_) (fun hc => ?_) <;> try simp only [hc] | refine kWant_by (fun hc => ?_) (fun hc => ?_) <;> try simp only [hc])
          first | exact hk | exact ⟨rfl, hk⟩
        · have f0 : decide (b.kind < 1) = false := decide_eq_false k0
          have f0' : decide (3 < b.kind) = true := decide_eq_true (by omega)
          repeat' (first | simp only [evr, nextP_norm, evd, evq, beq_self_eq_true, cond_true, cond_false, reduceIte, Nat.reduceEqDiff, Nat.reduceAdd, Int.reduceBNe, Int.reduceBEq, Int.reduceLT, Int.reduceLE, Int.reduceEq, evh, evp, Nat.reduceLeDiff, Nat.reduceSub, Nat.reduceBEq, typs, cd, cn, ca, ge, q3, g3, f0, f0'] | refine kCond2_by (fun hc => ?_) (fun hc => ?_) <;> try simp only [hc] | refine kPick_by (fun hc => ?_) (fun hc => ?_) <;> try simp only [hc] | refine kWant_by (fun hc => ?_) (fun hc => ?_) <;> try simp only [hc])
          first | exact hk | exact ⟨rfl, hk⟩
end
end Go.Proofs.YtncmgiddcefpcaaGreatDoor
namespace Go.Proofs.YtncmgiddcefpcaaGreatDoor
open Go Go.Ev Go.Con
set_option linter.unusedSimpArgs false
set_option linter.unusedVariables false
set_option maxRecDepth 100000
theorem load_bn {h : Hp} {b o : Nat} {all : List Value} {x : Bn} {sl : Value} (h2 : rowOf h b = some all) (h3 : o + 10 ≤ all.length) (h4 : (all.drop o).take 10 = bnC x sl) :
    evLoad kon.P 34 (.pointer (some ⟨b, o, none⟩)) h = some (.agg #[.int .i64 x.kind, .int .i64 x.uid, .int .i64 x.dir, .string x.link, .bool x.object, sl, .int .i64 x.b.r1, .int .i64 x.b.r2, .int .i64 x.b.r3, .int .i64 x.b.g]) := by
  rw [L_loadA (C := kon) (t := 34) (n := 10) (by kernel_rfl) (by kernel_rfl), h2, Option.bind_some, aggAt_eq h3, h4]; rfl
section
variable {h : Hp} {c : Nat → Nat} {T : Hi} {br : Nat} {vB vL vD : Value} {cs : List Value}
theorem TmTy.cell {h : Hp} {F : Nat → Prop} {v : Value} {l : List Tm} (s : TmTy h F v l) : isCell v = true ∧ v.cells = #[v] := ⟨SlTy.isCell s, SlTy.cellsV s⟩
end
end Go.Proofs.YtncmgiddcefpcaaGreatDoor
namespace Go.Proofs.YtncmgiddcefpcaaGreatDoor
open Go Go.Ev Go.Con
set_option linter.unusedSimpArgs false
set_option linter.unusedVariables false
set_option maxRecDepth 100000
theorem ens_app (l : List En) (e : En) : ens (l ++ [e]) = ens l ++ enC e := by simp [ens]
theorem bnC_cell {b : Bn} {sl : Value} (h : isCell sl = true) : (bnC b sl).all isCell = true := by simp only [bnC, List.all_cons, h, List.all_nil]; rfl
theorem one_cells {n b t : Nat} {h : Hp} {cs : List Value} {st : St} (hg : h.get b = some (.row cs t st)) (hd : notDead st) (hn : cs.length = n) (h1 : 1 ≤ n) : evCells n 1 (.slice (some ⟨b, 0, none⟩) 1 2) h = some cs := by
  show (bif 1 * n == 0 then some [] else (rowOf h b).bind fun cs => bif decide (0 + 1 * n ≤ cs.length) then some ((cs.drop 0).take (1 * n)) else none) = _
  rw [rowOf_get hg hd]
  have : (1 * n == 0) = false := by simp; omega
  rw [this]
  simp [hn]
  rw [← hn, List.take_length]
section
variable {G : Nat → Prop} {h : Hp} {v : Value}
theorem app_en {l : List En} {e : En} (g : Gr G h v 126 3 (ens l)) (hl : l.length ≤ 1000000000) {b : Nat} (hb : h.get b = some (.row (enC e) 126 (.rw 0 []))) :
    ∃ v' h', evAppend kon.P 95 v (.slice (some ⟨b, 0, none⟩) 1 2) h = some (v', h') ∧ Gr (fun k => G k ∨ k = h.next) h' v' 126 3 (ens (l ++ [e])) ∧ h'.next = h.next + 1 ∧ ∀ c, c < h.next → ¬ G c → h'.get c = h.get c := by
  rw [ens_app]
  exact append_gr (e := 126) (n := 3) (by_ := 32) (by kernel_rfl) (by kernel_rfl) (by kernel_rfl) (z := .agg #[.int .i64 0, .int .i64 0, .string ByteArray.empty]) (by kernel_rfl) (by kernel_rfl) (by decide) g (x := .slice (some ⟨b, 0, none⟩) 1 2) (j := 1) rfl
    (one_cells hb trivial rfl (by decide)) (by decide) rfl rfl (by rw [ens_len]; exact Nat.le_trans (Nat.mul_le_mul_right 33 (show _ ≤ 6000001026 by omega)) (by decide))
theorem app_bo {l : List Bool} {e : Bool} (g : Gr G h v 4 1 (l.map Value.bool)) (hl : l.length ≤ 1000000000) {b : Nat} (hb : h.get b = some (.row [.bool e] 4 (.rw 0 []))) :
    ∃ v' h', evAppend kon.P 93 v (.slice (some ⟨b, 0, none⟩) 1 2) h = some (v', h') ∧ Gr (fun k => G k ∨ k = h.next) h' v' 4 1 ((l ++ [e]).map Value.bool) ∧ h'.next = h.next + 1 ∧ ∀ c, c < h.next → ¬ G c → h'.get c = h.get c := by
  rw [List.map_append]
  exact append_gr (e := 4) (n := 1) (by_ := 1) (by kernel_rfl) (by kernel_rfl) (by kernel_rfl) (z := .bool false) (by kernel_rfl) (by kernel_rfl) (by decide) g (x := .slice (some ⟨b, 0, none⟩) 1 2) (j := 1) rfl
    (one_cells hb trivial rfl (by decide)) (by decide) rfl rfl (by rw [List.length_map]; exact Nat.le_trans (Nat.mul_le_mul_right 2 (show _ ≤ 6000001026 by omega)) (by decide))
theorem app_bn {cs : List Value} {e : Bn} {sl : Value} (g : Gr G h v 34 10 cs) (hl : cs.length ≤ 10000000000) (hsl : isCell sl = true) {b : Nat} (hb : h.get b = some (.row (bnC e sl) 34 (.rw 0 []))) :
    ∃ v' h', evAppend kon.P 94 v (.slice (some ⟨b, 0, none⟩) 1 2) h = some (v', h') ∧ Gr (fun k => G k ∨ k = h.next) h' v' 34 10 (cs ++ bnC e sl) ∧ h'.next = h.next + 1 ∧ ∀ c, c < h.next → ¬ G c → h'.get c = h.get c := by
  exact append_gr (e := 34) (n := 10) (by_ := 104) (by kernel_rfl) (by kernel_rfl) (by kernel_rfl)
    (z := .agg #[.int .i64 0, .int .i64 0, .int .i64 0, .string ByteArray.empty, .bool false, .slice none 0 0, .int .i64 0, .int .i64 0, .int .i64 0, .int .i64 0]) (by kernel_rfl) (by kernel_rfl) (by decide) g (x := .slice (some ⟨b, 0, none⟩) 1 2) (j := 1) rfl
    (one_cells hb trivial rfl (by decide)) (by decide) rfl (bnC_cell hsl) (Nat.le_trans (Nat.mul_le_mul_right 105 (show _ ≤ 60000001026 by omega)) (by decide))
theorem app_tm {l : List Tm} (s : TmSl h v l) (hl : l.length ≤ 1000000000) : ∃ v' h', evAppend kon.P 30 (.slice none 0 0) v h = some (v', h') ∧ Keep h h' ∧ TmTy h' (fun k => h.next ≤ k) v' l := by
  obtain ⟨j, e1, e2, e3⟩ := SlAt.cells s
  have hj : j = l.length := by rw [tms_len] at e3; omega
  subst hj
  cases hz : l with
  | nil =>
    subst hz
    refine ⟨.slice none 0 0, h, ?_, Keep.refl _, .inl ⟨rfl, rfl⟩⟩
    have h1 : tSliceElem kon.P 30 = some 65 := by kernel_rfl
    have h2 : tSize kon.P 65 = some 4 := by kernel_rfl
    have h3 : tBytes kon.P 65 = some 24 := by kernel_rfl
    have h4 : tZero kon.P 65 = some (.agg #[.string ByteArray.empty, .bool false, .bool false, .bool false]) := by kernel_rfl
    unfold evAppend
    simp only [h1, h2, h3, h4, e1, Option.bind_some]
    rfl
  | cons a l' =>
    rw [← hz]
    have h0 : 1 ≤ l.length := by rw [hz]; simp
    obtain ⟨v', h', h1, h2, h3, h4⟩ := append_gr (P := kon.P) (t := 30) (e := 65) (n := 4) (by_ := 24) (by kernel_rfl) (by kernel_rfl) (by kernel_rfl) (z := .agg #[.string ByteArray.empty, .bool false, .bool false, .bool false]) (by kernel_rfl) (by kernel_rfl) (by decide) (Gr.nil h _ _) e1 e2 h0 e3 (tms_cell l) (by
      simp only [List.length_nil, Nat.zero_add]
      exact Nat.le_trans (Nat.mul_le_mul_right 25 (show _ ≤ 2000001024 by omega)) (by decide))
    refine ⟨v', h', h1, ⟨by omega, fun k hk => h4 k hk fun h => h⟩, ?_⟩
    rcases h2 with ⟨h2, ⟨rfl, h5⟩ | ⟨b, k, base, olds, x, r1, r2, r3, r4, r5, r6, r7, r8⟩⟩
    · exact .inl ⟨rfl, by simpa using h5⟩
    · refine .inr ⟨b, 0, k, _, _, _, r1, by omega, ?_, h2 b r7, r5, trivial, by simpa using r3, ?_⟩
      · rcases r7 with r7 | r7
        · exact r7.elim
        · exact Nat.le_of_eq r7.symm
      · rw [List.drop_zero, List.nil_append, List.take_of_length_le (by simp at r3; omega)]
end
end Go.Proofs.YtncmgiddcefpcaaGreatDoor
namespace Go.Proofs.YtncmgiddcefpcaaGreatDoor
open Go Go.Ev Go.Con
set_option linter.unusedSimpArgs false
set_option linter.unusedVariables false
set_option maxRecDepth 100000
section
variable {h h' : Hp} {c : Nat → Nat} {T : Hi} {br : Nat} {vB vL vD : Value} {cs : List Value}
noncomputable def paint (c : Nat → Nat) (p : Nat → Prop) (x : Nat) : Nat → Nat := fun k => open Classical in if c k = 0 ∧ p k then x else c k
theorem paint_old {p : Nat → Prop} {x k : Nat} (h : c k ≠ 0) : paint c p x k = c k := by unfold paint; rw [if_neg (fun q => h q.1)]
theorem paint_new {p : Nat → Prop} {x k : Nat} (h : c k = 0) (hp : p k) : paint c p x k = x := by unfold paint; rw [if_pos ⟨h, hp⟩]
theorem paint_out {p : Nat → Prop} {x k : Nat} (hp : ¬ p k) : paint c p x k = c k := by unfold paint; rw [if_neg (fun q => hp q.2)]
theorem paint_cases {p : Nat → Prop} {x k : Nat} : (paint c p x k = c k ∧ (c k ≠ 0 ∨ ¬ p k)) ∨ (paint c p x k = x ∧ c k = 0 ∧ p k) := by
  by_cases h : c k = 0
  · by_cases hp : p k
    · exact .inr ⟨paint_new h hp, h, hp⟩
    · exact .inl ⟨paint_out hp, .inr hp⟩
  · exact .inl ⟨paint_old h, .inl h⟩
theorem paint_mono {p : Nat → Prop} {x y k : Nat} (hy : y ≠ 0) (h : c k = y) : paint c p x k = y := by rw [paint_old (by rw [h]; exact hy)]; exact h
theorem Gr.paint {y : Nat} {v : Value} {e n : Nat} {cs : List Value} (g : Gr (fun k => c k = y) h v e n cs) (hy : y ≠ 0) {p : Nat → Prop} {x : Nat} (hp : ∀ k, p k → k < h.next) (hlt : ∀ k, c k ≠ 0 → k < h.next) (hx : x ≠ 0) : Gr (fun k => Go.Proofs.YtncmgiddcefpcaaGreatDoor.paint c p x k = y) h v e n cs :=
  g.mono (fun k hk => paint_mono hy hk) fun k hk => by
    rcases paint_cases (c := c) (p := p) (x := x) (k := k) with ⟨h1, h2⟩ | ⟨_, _, h3⟩
    · rw [h1] at hk; exact hlt k (by rw [hk]; exact hy)
    · exact hp k h3
theorem paint_lt {p : Nat → Prop} {x : Nat} (hp : ∀ k, p k → k < h.next) (hlt : ∀ k, c k ≠ 0 → k < h.next) : ∀ k, paint c p x k ≠ 0 → k < h.next := fun k hk => by
  rcases paint_cases (c := c) (p := p) (x := x) (k := k) with ⟨h1, h2⟩ | ⟨_, _, h3⟩
  · rw [h1] at hk; exact hlt k hk
  · exact hp k h3
theorem RefB.paint (r : RefB h c T br vB vL vD cs) {p : Nat → Prop} {x : Nat} (hp : ∀ k, p k → k < h.next) (hx : x ≠ 0) : RefB h (paint c p x) T br vB vL vD cs :=
  ⟨r.row, paint_mono (by decide) r.me, Gr.paint r.b (by decide) hp r.lt hx, ⟨r.bn.1, fun i b hb => by
    obtain ⟨sl, h1, h2⟩ := r.bn.2 i b hb
    exact ⟨sl, h1, h2.same (Same.refl _ _) fun k hk => paint_mono (by decide) hk⟩⟩, Gr.paint r.l (by decide) hp r.lt hx, Gr.paint r.d (by decide) hp r.lt hx, paint_lt hp r.lt⟩
theorem RefB.setL (r : RefB h c T br vB vL vD cs) {vL' : Value} {L' : List En} (g : Gr (fun k => c k = 3) h vL' 126 3 (ens L')) : RefB (h.set br (.row [vB, vL', vD] 97 (.rw 0 []))) c ⟨T.B, L', T.D⟩ br vB vL' vD cs := by
  have ne : ∀ {k y : Nat}, c k = y → y ≠ 1 → (h.set br (.row [vB, vL', vD] 97 (.rw 0 []))).get k = h.get k := fun {k y} hk hy => Hp.get_set_ne (by rintro rfl; rw [r.me] at hk; exact hy hk.symm)
  exact ⟨Hp.get_set_self _ _ _, r.me, r.b.keep (Nat.le_refl _) fun k hk => ne hk (by decide), r.bn.keep (Nat.le_refl _) fun k hk => ne hk (by decide), g.keep (Nat.le_refl _) fun k hk => ne hk (by decide), r.d.keep (Nat.le_refl _) fun k hk => ne hk (by decide), r.lt⟩
theorem RefB.setB (r : RefB h c T br vB vL vD cs) {vB' : Value} {B' : List Bn} {cs' : List Value} (g : Gr (fun k => c k = 2) h vB' 34 10 cs') (bn : BnRow h (fun k => c k = 5) B' cs') : RefB (h.set br (.row [vB', vL, vD] 97 (.rw 0 []))) c ⟨B', T.L, T.D⟩ br vB' vL vD cs' := by
  have ne : ∀ {k y : Nat}, c k = y → y ≠ 1 → (h.set br (.row [vB', vL, vD] 97 (.rw 0 []))).get k = h.get k := fun {k y} hk hy => Hp.get_set_ne (by rintro rfl; rw [r.me] at hk; exact hy hk.symm)
  exact ⟨Hp.get_set_self _ _ _, r.me, g.keep (Nat.le_refl _) fun k hk => ne hk (by decide), bn.keep (Nat.le_refl _) fun k hk => ne hk (by decide), r.l.keep (Nat.le_refl _) fun k hk => ne hk (by decide), r.d.keep (Nat.le_refl _) fun k hk => ne hk (by decide), r.lt⟩
structure Grew (h h' : Hp) (c : Nat → Nat) (y : Nat) : Prop where
  next : h'.next = h.next + 1
  same : ∀ k, k < h.next → ¬ c k = y → h'.get k = h.get k
theorem appL (r : RefB h c T br vB vL vD cs) {vL' : Value} {L' : List En} (g : Gr (fun k => c k = 3 ∨ k = h.next) h' vL' 126 3 (ens L')) (x : Grew h h' c 3) :
    RefB (h'.set br (.row [vB, vL', vD] 97 (.rw 0 []))) (paint c (· = h.next) 3) ⟨T.B, L', T.D⟩ br vB vL' vD cs := by
  have hn := x.next
  have hn2 : h.next ≤ (h'.set br (.row [vB, vL', vD] 97 (.rw 0 []))).next := by show h.next ≤ h'.next; omega
  have ne : ∀ {k y : Nat}, c k = y → y ≠ 0 → y ≠ 1 → y ≠ 3 → (h'.set br (.row [vB, vL', vD] 97 (.rw 0 []))).get k = h.get k := fun {k y} hk h0 h1 h3 => by
    rw [Hp.get_set_ne (by rintro rfl; rw [r.me] at hk; exact h1 hk.symm)]; exact x.same k (r.lt k (by rw [hk]; exact h0)) (by rw [hk]; exact h3)
  have c0 : c h.next = 0 := Decidable.byContradiction fun h0 => Nat.lt_irrefl _ (r.lt _ h0)
  have lt' : ∀ k, paint c (· = h.next) 3 k ≠ 0 → k < h'.next := fun k hk => by
    rcases paint_cases (c := c) (p := (· = h.next)) (x := 3) (k := k) with ⟨h1, _⟩ | ⟨_, _, h3⟩
    · rw [h1] at hk; have := r.lt k hk; omega
    · subst h3; omega
  have up : ∀ {y : Nat} {v : Value} {e n : Nat} {cs : List Value}, y ≠ 0 → y ≠ 1 → y ≠ 3 → Gr (fun k => c k = y) h v e n cs → Gr (fun k => paint c (· = h.next) 3 k = y) (h'.set br (.row [vB, vL', vD] 97 (.rw 0 []))) v e n cs := fun {y v e n cs} h0 h1 h3 g =>
    (g.keep hn2 fun k hk => ne hk h0 h1 h3).mono (fun k hk => paint_mono h0 hk) fun k hk => lt' k (by rw [hk]; exact h0)
  refine ⟨Hp.get_set_self _ _ _, paint_mono (by decide) r.me, up (by decide) (by decide) (by decide) r.b, ⟨r.bn.1, fun i b hb => ?_⟩, ?_, up (by decide) (by decide) (by decide) r.d, lt'⟩
  · obtain ⟨sl, h1, h2⟩ := r.bn.2 i b hb
    exact ⟨sl, h1, (SlTy.keepF h2 hn2 fun k hk => ne hk (by decide) (by decide) (by decide)).same (Same.refl _ _) fun k hk => paint_mono (by decide) hk⟩
  · refine Gr.mono (G := fun k => c k = 3 ∨ k = h.next) (g.keep (Nat.le_refl _) fun k hk => Hp.get_set_ne ?_) (fun k hk => ?_) fun k hk => lt' k (by rw [hk]; decide)
    · rintro rfl
      rcases hk with hk | rfl
      · rw [r.me] at hk; cases hk
      · have := r.me; rw [c0] at this; cases this
    · rcases hk with hk | rfl
      · exact paint_mono (by decide) hk
      · exact paint_new c0 rfl
theorem appD (r : RefB h c T br vB vL vD cs) {vD' : Value} {D' : List Bool} (g : Gr (fun k => c k = 4 ∨ k = h.next) h' vD' 4 1 (D'.map Value.bool)) (x : Grew h h' c 4) :
    RefB (h'.set br (.row [vB, vL, vD'] 97 (.rw 0 []))) (paint c (· = h.next) 4) ⟨T.B, T.L, D'⟩ br vB vL vD' cs := by
  have hn := x.next
  have hn2 : h.next ≤ (h'.set br (.row [vB, vL, vD'] 97 (.rw 0 []))).next := by show h.next ≤ h'.next; omega
  have ne : ∀ {k y : Nat}, c k = y → y ≠ 0 → y ≠ 1 → y ≠ 4 → (h'.set br (.row [vB, vL, vD'] 97 (.rw 0 []))).get k = h.get k := fun {k y} hk h0 h1 h3 => by
    rw [Hp.get_set_ne (by rintro rfl; rw [r.me] at hk; exact h1 hk.symm)]; exact x.same k (r.lt k (by rw [hk]; exact h0)) (by rw [hk]; exact h3)
  have c0 : c h.next = 0 := Decidable.byContradiction fun h0 => Nat.lt_irrefl _ (r.lt _ h0)
  have lt' : ∀ k, paint c (· = h.next) 4 k ≠ 0 → k < h'.next := fun k hk => by
    rcases paint_cases (c := c) (p := (· = h.next)) (x := 4) (k := k) with ⟨h1, _⟩ | ⟨_, _, h3⟩
    · rw [h1] at hk; have := r.lt k hk; omega
    · subst h3; omega
  have up : ∀ {y : Nat} {v : Value} {e n : Nat} {cs : List Value}, y ≠ 0 → y ≠ 1 → y ≠ 4 → Gr (fun k => c k = y) h v e n cs → Gr (fun k => paint c (· = h.next) 4 k = y) (h'.set br (.row [vB, vL, vD'] 97 (.rw 0 []))) v e n cs := fun {y v e n cs} h0 h1 h3 g =>
    (g.keep hn2 fun k hk => ne hk h0 h1 h3).mono (fun k hk => paint_mono h0 hk) fun k hk => lt' k (by rw [hk]; exact h0)
  refine ⟨Hp.get_set_self _ _ _, paint_mono (by decide) r.me, up (by decide) (by decide) (by decide) r.b, ⟨r.bn.1, fun i b hb => ?_⟩, up (by decide) (by decide) (by decide) r.l, ?_, lt'⟩
  · obtain ⟨sl, h1, h2⟩ := r.bn.2 i b hb
    exact ⟨sl, h1, (SlTy.keepF h2 hn2 fun k hk => ne hk (by decide) (by decide) (by decide)).same (Same.refl _ _) fun k hk => paint_mono (by decide) hk⟩
  · refine Gr.mono (G := fun k => c k = 4 ∨ k = h.next) (g.keep (Nat.le_refl _) fun k hk => Hp.get_set_ne ?_) (fun k hk => ?_) fun k hk => lt' k (by rw [hk]; decide)
    · rintro rfl
      rcases hk with hk | rfl
      · rw [r.me] at hk; cases hk
      · have := r.me; rw [c0] at this; cases this
    · rcases hk with hk | rfl
      · exact paint_mono (by decide) hk
      · exact paint_new c0 rfl
theorem appB (r : RefB h c T br vB vL vD cs) {vB' : Value} {b : Bn} {sl : Value} (g : Gr (fun k => c k = 2 ∨ k = h.next) h' vB' 34 10 (cs ++ bnC b sl)) (x : Grew h h' c 2) (hsl : TmTy h (fun k => c k = 5) sl b.acl) :
    RefB (h'.set br (.row [vB', vL, vD] 97 (.rw 0 []))) (paint c (· = h.next) 2) ⟨T.B ++ [b], T.L, T.D⟩ br vB' vL vD (cs ++ bnC b sl) := by
  have hn := x.next
  have hn2 : h.next ≤ (h'.set br (.row [vB', vL, vD] 97 (.rw 0 []))).next := by show h.next ≤ h'.next; omega
  have ne : ∀ {k y : Nat}, c k = y → y ≠ 0 → y ≠ 1 → y ≠ 2 → (h'.set br (.row [vB', vL, vD] 97 (.rw 0 []))).get k = h.get k := fun {k y} hk h0 h1 h3 => by
    rw [Hp.get_set_ne (by rintro rfl; rw [r.me] at hk; exact h1 hk.symm)]; exact x.same k (r.lt k (by rw [hk]; exact h0)) (by rw [hk]; exact h3)
  have c0 : c h.next = 0 := Decidable.byContradiction fun h0 => Nat.lt_irrefl _ (r.lt _ h0)
  have lt' : ∀ k, paint c (· = h.next) 2 k ≠ 0 → k < h'.next := fun k hk => by
    rcases paint_cases (c := c) (p := (· = h.next)) (x := 2) (k := k) with ⟨h1, _⟩ | ⟨_, _, h3⟩
    · rw [h1] at hk; have := r.lt k hk; omega
    · subst h3; omega
  have up : ∀ {y : Nat} {v : Value} {e n : Nat} {cs : List Value}, y ≠ 0 → y ≠ 1 → y ≠ 2 → Gr (fun k => c k = y) h v e n cs → Gr (fun k => paint c (· = h.next) 2 k = y) (h'.set br (.row [vB', vL, vD] 97 (.rw 0 []))) v e n cs := fun {y v e n cs} h0 h1 h3 g =>
    (g.keep hn2 fun k hk => ne hk h0 h1 h3).mono (fun k hk => paint_mono h0 hk) fun k hk => lt' k (by rw [hk]; exact h0)
  have sl5 : ∀ {v : Value} {l : List Tm}, TmTy h (fun k => c k = 5) v l → TmTy (h'.set br (.row [vB', vL, vD] 97 (.rw 0 []))) (fun k => paint c (· = h.next) 2 k = 5) v l := fun {v l} h2 =>
    (SlTy.keepF h2 hn2 fun k hk => ne hk (by decide) (by decide) (by decide)).same (Same.refl _ _) fun k hk => paint_mono (by decide) hk
  have lB := r.bn.1
  refine ⟨Hp.get_set_self _ _ _, paint_mono (by decide) r.me, ?_, ⟨by simp only [List.length_append, lB, bnC, List.length_cons, List.length_nil]; omega, fun i b' hb => ?_⟩, up (by decide) (by decide) (by decide) r.l, up (by decide) (by decide) (by decide) r.d, lt'⟩
  · refine Gr.mono (G := fun k => c k = 2 ∨ k = h.next) (g.keep (Nat.le_refl _) fun k hk => Hp.get_set_ne ?_) (fun k hk => ?_) fun k hk => lt' k (by rw [hk]; decide)
    · rintro rfl
      rcases hk with hk | rfl
      · rw [r.me] at hk; cases hk
      · have := r.me; rw [c0] at this; cases this
    · rcases hk with hk | rfl
      · exact paint_mono (by decide) hk
      · exact paint_new c0 rfl
  · by_cases hi : i < T.B.length
    · have hb' : T.B[i]? = some b' := by rw [← hb, List.getElem?_append_left hi]
      obtain ⟨sl', h1, h2⟩ := r.bn.2 i b' hb'
      refine ⟨sl', ?_, sl5 h2⟩
      rw [List.drop_append_of_le_length (by omega), List.take_append_of_le_length (by simp only [List.length_drop]; omega)]; exact h1
    · have hi2 : i = T.B.length := by
        have := (List.getElem?_eq_some_iff.1 hb).1
        simp only [List.length_append, List.length_cons, List.length_nil] at this; omega
      subst hi2
      have : b' = b := by simpa using hb.symm
      subst this
      refine ⟨sl, ?_, sl5 hsl⟩
      rw [← lB, List.drop_append_length]; rfl
end
theorem rNew_spec (h : Hp) : Meets kon 14 [] h fun v h' => ∃ F br, v = ptrV br ∧ Keep h h' ∧ RefAt h' F newHi br ∧ ∀ k, F k → h.next ≤ k := by
  refine Meets.mk rfl (by kernel_rfl) Tryz.func14 rfl (congrArg Array.toList Tryz.results14) ?_
  repeat' (first | simp only [evr, nextP_norm, evd, evq, beq_self_eq_true, cond_true, cond_false, reduceIte, Nat.reduceEqDiff, Nat.reduceAdd, Int.reduceBNe, Int.reduceBEq, Int.reduceLT, Int.reduceLE, Int.reduceEq, evh, evp, Nat.reduceLeDiff, Nat.reduceSub, Nat.reduceBEq, typs] | refine kCond2_by (fun hc => ?_) (fun hc => ?_) <;> try simp only [hc] | refine kPick_by (fun hc => ?_) (fun hc => ?_) <;> try simp only [hc] | refine kWant_by (fun hc => ?_) (fun hc => ?_) <;> try simp only [hc])
  refine ⟨fun k => h.next ≤ k ∧ k < h.next + 2, h.next + 1, rfl, (Keep.push _ _).pushed, ⟨fun k => if k = h.next then 4 else if k = h.next + 1 then 1 else 0, .slice none 0 0, .slice none 0 0, .slice (some ⟨h.next, 0, none⟩) 1 (2 * 1 + 0), [], fun k => ?_, ⟨Hp.get_push_self (h.push _) _, ?_, ⟨fun k hk => ?_, .inl ⟨rfl, rfl⟩⟩, ⟨rfl, fun i b hb => ?_⟩,
    ⟨fun k hk => ?_, .inl ⟨rfl, rfl⟩⟩, ⟨fun k hk => ?_, .inr ⟨h.next, 1, 0, [], 0, rfl, by decide, rfl, by decide, ?_, by decide, ?_, by simp⟩⟩, fun k hk => ?_⟩, Hi.newHi_ok, fun i => by simp [newHi, Hi.br, noBn]⟩, fun k hk => hk.1⟩
  · by_cases h1 : k = h.next
    · subst h1; simp
    · by_cases h2 : k = h.next + 1
      · subst h2; simp
      · simp only [h1, h2, if_false]; omega
  · simp
  · by_cases h1 : k = h.next
    · subst h1; simp at hk
    · by_cases h2 : k = h.next + 1
      · subst h2; simp at hk
      · simp [h1, h2] at hk
  · simp [newHi] at hb
  · by_cases h1 : k = h.next
    · subst h1; simp at hk
    · by_cases h2 : k = h.next + 1
      · subst h2; simp at hk
      · simp [h1, h2] at hk
  · show k < h.next + 1 + 1
    by_cases h1 : k = h.next
    · omega
    · by_cases h2 : k = h.next + 1
      · omega
      · simp [h1, h2] at hk
  · rw [Hp.get_push_lt (show h.next < (h.push _).next from Nat.lt_succ_self _)]; exact Hp.get_push_self _ _
  · simp
  · show k < h.next + 1 + 1
    by_cases h1 : k = h.next
    · omega
    · by_cases h2 : k = h.next + 1
      · omega
      · simp [h1, h2] at hk
end Go.Proofs.YtncmgiddcefpcaaGreatDoor
namespace Go.Proofs.YtncmgiddcefpcaaGreatDoor
open Go Go.Ev Go.Con
set_option linter.unusedSimpArgs false
set_option linter.unusedVariables false
set_option maxRecDepth 100000
section
variable {h : Hp} {F : Nat → Prop} {T : Hi} {br : Nat}
theorem upd_paint {c : Nat → Nat} {p : Nat → Prop} {x : Nat} {h' : Hp} (hF : ∀ k, F k ↔ c k ≠ 0) (hn : h.next ≤ h'.next) (hs : ∀ k, k < h.next → c k = 0 → h'.get k = h.get k) (hp : ∀ k, p k → h.next ≤ k) : Upd h F h' fun k => paint c p x k ≠ 0 :=
  ⟨hn, fun k hk hf => hs k hk (Decidable.byContradiction fun h0 => hf ((hF k).2 h0)), fun k hk => by
    rcases paint_cases (c := c) (p := p) (x := x) (k := k) with ⟨h1, _⟩ | ⟨_, _, h3⟩
    · rw [h1] at hk; exact .inl ((hF k).2 hk)
    · exact .inr (hp k h3)⟩
theorem rName_spec (t : RefAt h F T br) (hL : T.L.length ≤ 1000000000) (d : Int) (s m : ByteArray) : Meets kon 45 [ptrV br, .int .i64 d, .string s, .string m] h fun v h' =>
    v = .int .i64 (T.name d s m).2 ∧ ∃ F', RefAt h' F' (T.name d s m).1 br ∧ Upd h F h' F' := by
  obtain ⟨c, vB, vL, vD, cs, hF, r, ok, ha⟩ := t
  have same : ∃ F', RefAt h F' T br ∧ Upd h F h F' := ⟨F, ⟨c, vB, vL, vD, cs, hF, r, ok, ha⟩, ⟨Nat.le_refl _, fun _ _ _ => rfl, fun _ hk => .inl hk⟩⟩
  unfold ptrV
  refine Meets.mk rfl (by kernel_rfl) Tryz.func45 rfl (congrArg Array.toList Tryz.results45) ?_
  have ca := fun n => (r.at hL d n).call
  have cn := (nameMay_spec m h).call
  unfold ptrV at ca
  unfold Hi.name
  cases h3 : T.get d s with
  | none =>
    have f1 : decide (atI T.L d s < 0) = true := by rw [atI_lt, h3]; rfl
    repeat' (first | simp only [evr, nextP_norm, evd, evq, beq_self_eq_true, cond_true, cond_false, reduceIte, Nat.reduceEqDiff, Nat.reduceAdd, Int.reduceBNe, Int.reduceBEq, Int.reduceLT, Int.reduceLE, Int.reduceEq, evh, evp, Nat.reduceLeDiff, Nat.reduceSub, Nat.reduceBEq, typs, ca, f1] | refine kCond2_by (fun hc => ?_) (fun hc => ?_) <;> try simp only [hc] | refine kPick_by (fun hc => ?_) (fun hc => ?_) <;> try simp only [hc] | refine kWant_by (fun hc => ?_) (fun hc => ?_) <;> try simp only [hc])
    exact same
  | some i =>
  have f1 : decide (atI T.L d s < 0) = false := by rw [atI_lt, h3]; rfl
  cases h2 : mayN m with
  | false =>
    rw [h2] at cn
    repeat' (first | simp only [evr, nextP_norm, evd, evq, beq_self_eq_true, cond_true, cond_false, reduceIte, Nat.reduceEqDiff, Nat.reduceAdd, Int.reduceBNe, Int.reduceBEq, Int.reduceLT, Int.reduceLE, Int.reduceEq, evh, evp, Nat.reduceLeDiff, Nat.reduceSub, Nat.reduceBEq, typs, ca, f1, cn] | refine kCond2_by (fun hc => ?_) (fun hc => ?_) <;> try simp only [hc] | refine kPick_by (fun hc => ?_) (fun hc => ?_) <;> try simp only [hc] | refine kWant_by (fun hc => ?_) (fun hc => ?_) <;> try simp only [hc])
    exact same
  | true =>
  rw [h2] at cn
  cases h4 : T.get d m with
  | some j =>
    have ge : decide (0 ≤ atI T.L d m) = true := by rw [atI_ge, h4]; rfl
    repeat' (first | simp only [evr, nextP_norm, evd, evq, beq_self_eq_true, cond_true, cond_false, reduceIte, Nat.reduceEqDiff, Nat.reduceAdd, Int.reduceBNe, Int.reduceBEq, Int.reduceLT, Int.reduceLE, Int.reduceEq, evh, evp, Nat.reduceLeDiff, Nat.reduceSub, Nat.reduceBEq, typs, ca, f1, cn, ge] | refine kCond2_by (fun hc => ?_) (fun hc => ?_) <;> try simp only [hc] | refine kPick_by (fun hc => ?_) (fun hc => ?_) <;> try simp only [hc] | refine kWant_by (fun hc => ?_) (fun hc => ?_) <;> try simp only [hc])
    exact ⟨rfl, same⟩
  | none =>
  have ge : decide (0 ≤ atI T.L d m) = false := by rw [atI_ge, h4]; rfl
  obtain ⟨k, e, e1, e2, e3, e4, e5⟩ := atI_some h3
  obtain ⟨b2, o, all, hia, hb, hr2, c0, c1, c2⟩ := EnSl.at r.en e2
  have cx := ca s
  rw [e1] at cx f1
  subst e3
  have hk1 : Keep h (h.push (.row (enC ⟨d, e.id, m⟩) 126 (.rw 0 []))) := Keep.push _ _
  have r1 := r.keeps hk1
  obtain ⟨vL', h2', ea, gL, hn2, hs2⟩ := app_en (e := ⟨d, e.id, m⟩) r1.l hL (Hp.get_push_self _ _)
  have gb : h2'.get br = _ := (hs2 br r1.lb (by rw [r1.me]; decide)).trans r1.row
  have rr := rowOf_rw gb
  have r2 := appL r1 gL ⟨hn2, hs2⟩
  unfold enC at ea
  repeat' (first | simp only [evr, nextP_norm, evd, evq, beq_self_eq_true, cond_true, cond_false, reduceIte, Nat.reduceEqDiff, Nat.reduceAdd, Int.reduceBNe, Int.reduceBEq, Int.reduceLT, Int.reduceLE, Int.reduceEq, evh, evp, Nat.reduceLeDiff, Nat.reduceSub, Nat.reduceBEq, typs, cx, ca, f1, cn, ge] | refine kCond2_by (fun hc => ?_) (fun hc => ?_) <;> try simp only [hc] | refine kPick_by (fun hc => ?_) (fun hc => ?_) <;> try simp only [hc] | refine kWant_by (fun hc => ?_) (fun hc => ?_) <;> try simp only [hc])
  refine Wp_drawE [0, 0, 0, 0, 1, 0, 0, 0, 0, 1, 0, 0, 0, 1, 0, 0, 2, 4, 0, 0, 4] (KR.mk (by kernel_rfl)) ?_
  obtain ⟨z1, z2⟩ := gL.cell
  repeat' (first | simp only [evr, nextP_norm, evd, evq, beq_self_eq_true, cond_true, cond_false, reduceIte, Nat.reduceEqDiff, Nat.reduceAdd, Int.reduceBNe, Int.reduceBEq, Int.reduceLT, Int.reduceLE, Int.reduceEq, evh, evp, Nat.reduceLeDiff, Nat.reduceSub, Nat.reduceBEq, typs, r.rw, hia, hr2, c1, ea, gb, rr, z1, z2] | refine kCond2_by (fun hc => ?_) (fun hc => ?_) <;> try simp only [hc] | refine kPick_by (fun hc => ?_) (fun hc => ?_) <;> try simp only [hc] | refine kWant_by (fun hc => ?_) (fun hc => ?_) <;> try simp only [hc])
  have on := ok.named h3 h4
  refine ⟨rfl, _, ⟨_, _, _, _, _, fun k => Iff.rfl, r2, on.1, ha⟩, upd_paint hF ?_ (fun k hk hc => ?_) fun k hk => ?_⟩
  · show h.next ≤ h2'.next
    have : (h.push (.row (enC ⟨d, e.id, m⟩) 126 (.rw 0 []))).next = h.next + 1 := rfl
    omega
  · rw [Hp.get_set_ne (by rintro rfl; rw [r.me] at hc; cases hc), hs2 k (Nat.lt_succ_of_lt hk) (by rw [hc]; decide)]
    exact Hp.get_push_lt hk
  · rw [hk]; exact Nat.le_succ _
end
end Go.Proofs.YtncmgiddcefpcaaGreatDoor
namespace Go.Proofs.YtncmgiddcefpcaaGreatDoor
open Go Go.Ev Go.Con
set_option linter.unusedSimpArgs false
set_option linter.unusedVariables false
set_option maxRecDepth 100000
section
variable {h : Hp} {F : Nat → Prop} {T : Hi} {br : Nat} {c : Nat → Nat} {vB vL vD : Value} {cs : List Value}
theorem Gr.lenB {G : Nat → Prop} {h : Hp} {v : Value} {cs : List Value} (g : Gr G h v 34 10 cs) {n : Nat} (hn : cs.length = n * 10) : evLen kon.P 94 v = some (.int .i64 n) := by
  obtain ⟨_, ⟨rfl, rfl⟩ | ⟨b, k, base, olds, x, rfl, h2, h3, _⟩⟩ := g
  · have : n = 0 := by simp at hn; omega
    subst this
    exact evLen_slice (e := 34) (by kernel_rfl)
  · have : k = n := by omega
    subst this
    exact evLen_slice (e := 34) (by kernel_rfl)
theorem add_fin (r : RefB h c T br vB vL vD cs) (hL : T.L.length ≤ 1000000000) (hB : T.B.length ≤ 1000000000) {b : Bn} {sl : Value} (hsl : TmTy h (fun k => c k = 5) sl b.acl) (d : Int) (s : ByteArray) :
    ∃ vB' h2, evAppend kon.P 94 vB (.slice (some ⟨h.next, 0, none⟩) 1 2) (h.push (.row [.int .i64 b.kind, .int .i64 b.uid, .int .i64 b.dir, .string b.link, .bool b.object, sl, .int .i64 b.b.r1, .int .i64 b.b.r2, .int .i64 b.b.r3, .int .i64 b.b.g] 34 (.rw 0 []))) = some (vB', h2) ∧
    h2.get br = some (.row [vB, vL, vD] 97 (.rw 0 [])) ∧ rowOf h2 br = some [vB, vL, vD] ∧ isCell vB' = true ∧ vB'.cells = #[vB'] ∧ evLen kon.P 94 vB' = some (.int .i64 ((T.B.length + 1 : Nat) : Int)) ∧
    rowOf (h2.set br (.row [vB', vL, vD] 97 (.rw 0 []))) br = some [vB', vL, vD] ∧
    ∃ vL' h3, evAppend kon.P 95 vL (.slice (some ⟨h2.next, 0, none⟩) 1 2) ((h2.set br (.row [vB', vL, vD] 97 (.rw 0 []))).push (.row [.int .i64 d, .int .i64 (T.B.length : Int), .string s] 126 (.rw 0 []))) = some (vL', h3) ∧
    h3.get br = some (.row [vB', vL, vD] 97 (.rw 0 [])) ∧ rowOf h3 br = some [vB', vL, vD] ∧ isCell vL' = true ∧ vL'.cells = #[vL'] ∧
    ∃ c' cs', RefB (h3.set br (.row [vB', vL', vD] 97 (.rw 0 []))) c' ⟨T.B ++ [b], T.L ++ [⟨d, T.B.length, s⟩], T.D⟩ br vB' vL' vD cs' ∧ h.next ≤ h3.next ∧ (∀ k, k < h.next → c k = 0 → (h3.set br (.row [vB', vL', vD] 97 (.rw 0 []))).get k = h.get k) ∧ (∀ k, c' k ≠ 0 → c k ≠ 0 ∨ h.next ≤ k) := by
  have hc := TmTy.cell hsl
  have r1 := r.keeps (Keep.push h (.row (bnC b sl) 34 (.rw 0 [])))
  have e1 : (h.push (.row (bnC b sl) 34 (.rw 0 []))).next = h.next + 1 := rfl
  obtain ⟨vB', h2, a1, g1, n1, s1⟩ := app_bn r1.b (by rw [r.bn.1]; omega) hc.1 (Hp.get_push_self _ _)
  have gb : h2.get br = _ := (s1 br r1.lb (by rw [r1.me]; decide)).trans r1.row
  have r2 := appB r1 g1 ⟨n1, s1⟩ (SlTy.keepF hsl (Nat.le_succ _) fun k hk => Hp.get_push_lt (r.lt k (by rw [hk]; decide)))
  obtain ⟨z1, z2⟩ := g1.cell
  have ln := Gr.lenB g1 (n := T.B.length + 1) (by rw [List.length_append, r.bn.1]; simp [bnC]; omega)
  have r3 := r2.keeps (Keep.push _ (.row (enC ⟨d, T.B.length, s⟩) 126 (.rw 0 [])))
  obtain ⟨vL', h3, a2, g2, n2, s2⟩ := app_en (e := ⟨d, T.B.length, s⟩) r3.l hL (Hp.get_push_self _ _)
  have gb2 : h3.get br = _ := (s2 br r3.lb (by rw [r3.me]; decide)).trans r3.row
  have r4 := appL r3 g2 ⟨n2, s2⟩
  obtain ⟨z3, z4⟩ := g2.cell
  have e2 : ((h2.set br (.row [vB', vL, vD] 97 (.rw 0 []))).push (.row (enC ⟨d, T.B.length, s⟩) 126 (.rw 0 []))).next = h2.next + 1 := rfl
  refine ⟨vB', h2, a1, gb, rowOf_rw gb, z1, z2, ln, rowOf_rw (Hp.get_set_self _ _ _), vL', h3, a2, gb2, rowOf_rw gb2, z3, z4, _, _, r4, by omega, fun k hk hc => ?_, fun k hk => ?_⟩
  · have nb : k ≠ br := by rintro rfl; rw [r.me] at hc; cases hc
    have p1 : paint c (· = (h.push (.row (bnC b sl) 34 (.rw 0 []))).next) 2 k = 0 := by rw [paint_out (by omega)]; exact hc
    rw [Hp.get_set_ne nb, s2 k (by omega) (by rw [p1]; decide), Hp.get_push_lt (show k < (h2.set br (.row [vB', vL, vD] 97 (.rw 0 []))).next by show k < h2.next; omega), Hp.get_set_ne nb, s1 k (by omega) (by rw [hc]; decide)]
    exact Hp.get_push_lt hk
  · rcases paint_cases (c := paint c (· = (h.push (.row (bnC b sl) 34 (.rw 0 []))).next) 2) (p := (· = ((h2.set br (.row [vB', vL, vD] 97 (.rw 0 []))).push (.row (enC ⟨d, T.B.length, s⟩) 126 (.rw 0 []))).next)) (x := 3) (k := k) with ⟨q, _⟩ | ⟨_, _, q⟩
    · rw [q] at hk
      rcases paint_cases (c := c) (p := (· = (h.push (.row (bnC b sl) 34 (.rw 0 []))).next)) (x := 2) (k := k) with ⟨q, _⟩ | ⟨_, _, q⟩
      · rw [q] at hk; exact .inl hk
      · exact .inr (by omega)
    · exact .inr (by omega)
end
end Go.Proofs.YtncmgiddcefpcaaGreatDoor
namespace Go.Proofs.YtncmgiddcefpcaaGreatDoor
open Go Go.Ev Go.Con
set_option linter.unusedSimpArgs false
set_option linter.unusedVariables false
set_option maxRecDepth 100000
section
variable {h : Hp} {F : Nat → Prop} {T : Hi} {br : Nat}
theorem upd_of {c c' : Nat → Nat} {h' : Hp} (hF : ∀ k, F k ↔ c k ≠ 0) (hn : h.next ≤ h'.next) (hs : ∀ k, k < h.next → c k = 0 → h'.get k = h.get k) (hp : ∀ k, c' k ≠ 0 → c k ≠ 0 ∨ h.next ≤ k) : Upd h F h' fun k => c' k ≠ 0 :=
  ⟨hn, fun k hk hf => hs k hk (Decidable.byContradiction fun h0 => hf ((hF k).2 h0)), fun k hk => (hp k hk).imp (fun q => (hF k).2 q) id⟩
theorem added_acl {d : Int} {s : ByteArray} {b : Bn} (ha : ∀ i, (T.br i).acl.length ≤ 1000000000) (hl : b.acl.length ≤ 1000000000) (i : Nat) : ((T.added d s b).br i).acl.length ≤ 1000000000 := by
  unfold Hi.added Hi.br
  by_cases hi : i < T.B.length
  · have := ha i
    unfold Hi.br at this
    simp only [List.getElem?_append_left hi]
    exact this
  · simp only []
    by_cases h2 : i = T.B.length
    · subst h2
      simp only [List.getElem?_append_right (Nat.le_refl _), Nat.sub_self, List.getElem?_cons_zero, Option.getD_some]
      unfold Hi.clean
      split
      · exact hl
      · split <;> simp
    · rw [List.getElem?_eq_none (by simp; omega)]; simp [noBn]
theorem build_segR {h : Hp} {F : Nat → Prop} {sl : Value} {l : List Tm} (s : TmTy h F sl l) (u : Int) (o : Bool) (x1 x2 x3 g : Int) :
    evBuild kon.P 34 [(0, .int .i64 1), (1, .int .i64 u), (4, .bool o), (5, sl), (6, .agg #[.int .i64 x1, .int .i64 x2, .int .i64 x3, .int .i64 g])] =
      some (.agg #[.int .i64 1, .int .i64 u, .int .i64 0, .string ByteArray.empty, .bool o, sl, .int .i64 x1, .int .i64 x2, .int .i64 x3, .int .i64 g]) := by
  rcases id s with ⟨rfl, _⟩ | ⟨b, o, k, c, all, st, rfl, _⟩ <;> kernel_rfl
def zsR : List Value := [.int .i64 0, .int .i64 0, .int .i64 0, .string ByteArray.empty, .bool false, .slice none 0 0, .int .i64 0, .int .i64 0, .int .i64 0, .int .i64 0]
theorem lit_bnR {h : Hp} {F : Nat → Prop} {sl : Value} {l : List Tm} (s : TmTy h F sl l) (k u d : Int) (lk : ByteArray) (o : Bool) (x1 x2 x3 g : Int) :
    litRow 34 10 1 zsR [(0, .agg #[.int .i64 k, .int .i64 u, .int .i64 d, .string lk, .bool o, sl, .int .i64 x1, .int .i64 x2, .int .i64 x3, .int .i64 g])] =
      some (.row [.int .i64 k, .int .i64 u, .int .i64 d, .string lk, .bool o, sl, .int .i64 x1, .int .i64 x2, .int .i64 x3, .int .i64 g] 34 (.rw 0 []), fun b => .slice (some ⟨b, 0, none⟩) 1 2) := by
  rcases id s with ⟨rfl, _⟩ | ⟨b, o, k, c, all, st, rfl, _⟩ <;> rfl
theorem SlTy.within {h : Hp} {F : Nat → Prop} {e n : Nat} {v : Value} {cs : List Value} (s : SlTy h F e n v cs) : SlTy h (fun k => F k ∧ k < h.next) e n v cs := by
  rcases s with s | ⟨b, o, k, c, all, st, h1, h2, hF, h3, h4, h5⟩
  · exact .inl s
  · exact .inr ⟨b, o, k, c, all, st, h1, h2, ⟨hF, h3⟩, h3, h4, h5⟩
set_option maxHeartbeats 4000000 in
theorem rAdd_spec (t : RefAt h F T br) (hL : T.L.length ≤ 1000000000) (hB : T.B.length ≤ 900000000) {b : Bn} {sl : Value} (hs : TmSl h sl b.acl) (hl : b.acl.length ≤ 1000000000) (d : Int) (s : ByteArray) :
    Meets kon 30 [ptrV br, .int .i64 d, .string s, .agg (bnC b sl).toArray] h fun v h' => v = .tuple #[.int .i64 (T.add d s b).2.1, .int .i64 (T.add d s b).2.2] ∧ ∃ F', RefAt h' F' (T.add d s b).1 br ∧ Upd h F h' F' := by
  obtain ⟨c, vB, vL, vD, cs, hF, r, ok, ha⟩ := t
  have hsc : isCell sl = true := by rcases hs with ⟨rfl, _⟩ | ⟨b, o, k, c, all, rfl, _⟩ <;> rfl
  have hcv : sl.cells = #[sl] := by rcases hs with ⟨rfl, _⟩ | ⟨b, o, k, c, all, rfl, _⟩ <;> rfl
  have can : ∀ {H : Hp}, Keep h H → Meets kon 63 [.pointer (some ⟨br, 0, none⟩), .int .i64 d, .string s, .agg #[.int .i64 b.kind, .int .i64 b.uid, .int .i64 b.dir, .string b.link, .bool b.object, sl, .int .i64 b.b.r1, .int .i64 b.b.r2, .int .i64 b.b.r3, .int .i64 b.b.g]] H
      fun v h' => v = .int .i64 (T.why d s b) ∧ Keep H h' := fun k => rCan_spec (r.keeps k) ok hL (SlAt.keep hs k) hl d s
  unfold bnC ptrV
  refine Meets.mk rfl (by kernel_rfl) Tryz.func30 rfl (congrArg Array.toList Tryz.results30) ?_
  repeat' (first | simp only [evr, nextP_norm, evd, evq, beq_self_eq_true, cond_true, cond_false, reduceIte, Nat.reduceEqDiff, Nat.reduceAdd, Int.reduceBNe, Int.reduceBEq, Int.reduceLT, Int.reduceLE, Int.reduceEq, evh, evp, Nat.reduceLeDiff, Nat.reduceSub, Nat.reduceBEq, typs, hsc, hcv] | refine kCond2_by (fun hc => ?_) (fun hc => ?_) <;> try simp only [hc] | refine kPick_by (fun hc => ?_) (fun hc => ?_) <;> try simp only [hc] | refine kWant_by (fun hc => ?_) (fun hc => ?_) <;> try simp only [hc])
  generalize hh : Hp.push h _ = H
  have g3 : H.get h.next = some (.row [.int .i64 b.kind, .int .i64 b.uid, .int .i64 b.dir, .string b.link, .bool b.object, sl, .int .i64 b.b.r1, .int .i64 b.b.r2, .int .i64 b.b.r3, .int .i64 b.b.g] 34 (.rw 0 [])) := by rw [← hh]; exact Hp.get_push_self _ _
  have hk : Keep h H := by rw [← hh]; exact Keep.push _ _
  have hx : H.next = h.next + 1 := by rw [← hh]; rfl
  clear hh
  have q3 := rowOf_rw g3
  repeat' (first | simp only [evr, nextP_norm, evd, evq, beq_self_eq_true, cond_true, cond_false, reduceIte, Nat.reduceEqDiff, Nat.reduceAdd, Int.reduceBNe, Int.reduceBEq, Int.reduceLT, Int.reduceLE, Int.reduceEq, evh, evp, Nat.reduceLeDiff, Nat.reduceSub, Nat.reduceBEq, typs, q3, g3] | refine kCond2_by (fun hc => ?_) (fun hc => ?_) <;> try simp only [hc] | refine kPick_by (fun hc => ?_) (fun hc => ?_) <;> try simp only [hc] | refine kWant_by (fun hc => ?_) (fun hc => ?_) <;> try simp only [hc])
  refine callP_meets (can hk) ?_
  rintro _ H2 ⟨rfl, k2⟩
  have K2 := hk.trans k2
  unfold Hi.add
  by_cases hw : T.why d s b = 0
  · have fw : (T.why d s b != 0) = false := by simp [hw]
    have hx2 : h.next + 1 ≤ H2.next := by have := k2.1; omega
    have g2 := (k2.2 _ (by omega)).trans g3
    have q2 := rowOf_rw g2
    have rH2 := r.keeps K2
    have ne2 : (h.next = H2.next) = False := by simp; omega
    rw [if_pos hw]
    have oka := ok.added hw
    have aca := fun i => added_acl (d := d) (s := s) ha hl i
    have hce : T.cleanE b = 0 := by
      unfold Hi.why at hw
      split at hw
      · cases hw
      · split at hw
        · cases hw
        · split at hw
          · cases hw
          · exact hw
    by_cases k1 : b.kind = 1
    · have f1 : (b.kind == 1) = true := by simp [k1]
      have cl : T.clean b = ⟨1, b.uid, 0, ByteArray.empty, b.object, b.acl, b.b⟩ := by unfold Hi.clean; rw [if_pos k1]
      repeat' (first | simp only [evr, nextP_norm, evd, evq, beq_self_eq_true, cond_true, cond_false, reduceIte, Nat.reduceEqDiff, Nat.reduceAdd, Int.reduceBNe, Int.reduceBEq, Int.reduceLT, Int.reduceLE, Int.reduceEq, evh, evp, Nat.reduceLeDiff, Nat.reduceSub, Nat.reduceBEq, typs, fw, q2, g2, ne2, f1] | refine kCond2_by (fun hc => ?_) (fun hc => ?_) <;> try simp only [hc] | refine kPick_by (fun hc => ?_) (fun hc => ?_) <;> try simp only [hc] | refine kWant_by (fun hc => ?_) (fun hc => ?_) <;> try simp only [hc])
      generalize hh : Hp.set _ _ _ = H3
      have g4 : H3.get H2.next = some (.row [.int .i64 b.kind, .int .i64 0, .int .i64 0, .string ByteArray.empty, .bool false, .slice none 0 0, .int .i64 0, .int .i64 0, .int .i64 0, .int .i64 0] 34 (.rw 0 [])) := by rw [← hh]; exact Hp.get_set_self _ _ _
      have K3 : Keep H2 H3 := by rw [← hh]; exact (Keep.push _ _).set (Nat.le_refl _)
      have hx3 : H3.next = H2.next + 1 := by rw [← hh]; rfl
      clear hh
      have q3 := rowOf_rw ((K3.2 _ (by omega)).trans g2)
      obtain ⟨sl', H4, a4, K4, ty4⟩ := app_tm (SlAt.keep hs (K2.trans K3)) hl
      have hx4 := K4.1
      have g4' := (K4.2 _ (by omega)).trans g4
      have q4 := rowOf_rw g4'
      obtain ⟨z1, z2⟩ := TmTy.cell ty4
      refine Wp_drawE [0, 1, 0, 1, 0, 1, 3, 0, 1, 0, 4] (KR.mk (by kernel_rfl)) ?_
      have q34 := rowOf_rw ((K4.2 _ (by omega)).trans ((K3.2 _ (by omega)).trans g2))
      repeat' (first | simp only [evr, nextP_norm, evd, evq, beq_self_eq_true, cond_true, cond_false, reduceIte, Nat.reduceEqDiff, Nat.reduceAdd, Int.reduceBNe, Int.reduceBEq, Int.reduceLT, Int.reduceLE, Int.reduceEq, evh, evp, Nat.reduceLeDiff, Nat.reduceSub, Nat.reduceBEq, typs, q3, q34, a4, g4', q4, z1, z2, build_segR ty4] | refine kCond2_by (fun hc => ?_) (fun hc => ?_) <;> try simp only [hc] | refine kPick_by (fun hc => ?_) (fun hc => ?_) <;> try simp only [hc] | refine kWant_by (fun hc => ?_) (fun hc => ?_) <;> try simp only [hc])
      generalize hh : Hp.set _ _ _ = H5
      have g5 : H5.get H2.next = some (.row [.int .i64 1, .int .i64 b.uid, .int .i64 0, .string ByteArray.empty, .bool b.object, sl', .int .i64 b.b.r1, .int .i64 b.b.r2, .int .i64 b.b.r3, .int .i64 b.b.g] 34 (.rw 0 [])) := by rw [← hh]; exact Hp.get_set_self _ _ _
      have s5 : ∀ k, k ≠ H2.next → H5.get k = H4.get k := fun k hk => by rw [← hh]; exact Hp.get_set_ne hk
      have hx5 : H5.next = H4.next := by rw [← hh]; rfl
      clear hh
      have K5 : Keep h H5 := ⟨by have := ((K2.trans K3).trans K4).1; omega, fun k hk => (s5 k (by have := K2.1; omega)).trans (((K2.trans K3).trans K4).2 k hk)⟩
      have r5 := (r.keeps K5).paint (p := fun k => H3.next ≤ k ∧ k < H4.next) (x := 5) (fun k hk => by omega) (by decide)
      have q5 := rowOf_rw g5
      have lt := lit_bnR ty4 1 b.uid 0 ByteArray.empty b.object b.b.r1 b.b.r2 b.b.r3 b.b.g
      unfold zsR at lt
      have c0 : ∀ k, h.next ≤ k → c k = 0 := fun k hk => Decidable.byContradiction fun h0 => by have := r.lt k h0; omega
      have ty5 : TmTy H5 (fun k => paint c (fun k => H3.next ≤ k ∧ k < H4.next) 5 k = 5) sl' b.acl :=
        SlTy.same (SlTy.keepF (SlTy.within ty4) (Nat.le_of_eq hx5.symm) fun k hk => s5 k (by omega)) (Same.refl _ _) fun k hk => paint_new (c0 k (by have := K2.1; omega)) hk
      obtain ⟨vB', h6, ea, gb, rb, w1, w2, ln, rs, vL', h7, ea2, gb2, rb2, w3, w4, c', cs', rF, nx, sm, ow⟩ := add_fin (b := ⟨1, b.uid, 0, ByteArray.empty, b.object, b.acl, b.b⟩) r5 hL (by omega) ty5 d s
      dsimp only at ea
      have ws : IntKind.i64.wrap (((T.B.length + 1 : Nat) : Int) - 1) = (T.B.length : Int) := by rw [wrap64 (by omega) (by omega)]; omega
      refine Wp_drawE [0, 0, 0, 0, 1, 1, 2, 4, 0, 0, 4] (KR.mk (by kernel_rfl)) ?_
      repeat' (first | simp only [evr, nextP_norm, evd, evq, beq_self_eq_true, cond_true, cond_false, reduceIte, Nat.reduceEqDiff, Nat.reduceAdd, Int.reduceBNe, Int.reduceBEq, Int.reduceLT, Int.reduceLE, Int.reduceEq, evh, evp, Nat.reduceLeDiff, Nat.reduceSub, Nat.reduceBEq, typs, r5.rw, q5, lt, kNew_eq, ea, gb, rb, w1, w2] | refine kCond2_by (fun hc => ?_) (fun hc => ?_) <;> try simp only [hc] | refine kPick_by (fun hc => ?_) (fun hc => ?_) <;> try simp only [hc] | refine kWant_by (fun hc => ?_) (fun hc => ?_) <;> try simp only [hc])
      refine Wp_drawE [0, 0, 0, 0, 1, 0, 0, 0, 0, 1, 0, 0, 0, 0, 2, 4, 0, 0, 4] (KR.mk (by kernel_rfl)) ?_
      repeat' (first | simp only [evr, nextP_norm, evd, evq, beq_self_eq_true, cond_true, cond_false, reduceIte, Nat.reduceEqDiff, Nat.reduceAdd, Int.reduceBNe, Int.reduceBEq, Int.reduceLT, Int.reduceLE, Int.reduceEq, evh, evp, Nat.reduceLeDiff, Nat.reduceSub, Nat.reduceBEq, typs, rs, ln, ws, ea2, gb2, rb2, w3, w4] | refine kCond2_by (fun hc => ?_) (fun hc => ?_) <;> try simp only [hc] | refine kPick_by (fun hc => ?_) (fun hc => ?_) <;> try simp only [hc] | refine kWant_by (fun hc => ?_) (fun hc => ?_) <;> try simp only [hc])
      have e0 : T.added d s b = ⟨T.B ++ [⟨1, b.uid, 0, ByteArray.empty, b.object, b.acl, b.b⟩], T.L ++ [⟨d, T.B.length, s⟩], T.D⟩ := by unfold Hi.added; rw [cl, if_neg (by omega)]
      rw [e0] at oka aca
      refine ⟨by rw [cl], _, ⟨c', vB', vL', vD, cs', fun k => Iff.rfl, by rw [e0]; exact rF, by rw [e0]; exact oka, by rw [e0]; exact aca⟩, upd_of hF (by show h.next ≤ h7.next; have := K5.1; omega) (fun k hk hc => ?_) fun k hk => ?_⟩
      · rw [sm k (Nat.lt_of_lt_of_le hk K5.1) (by rw [paint_out (by have := K2.1; omega)]; exact hc)]
        exact K5.2 k hk
      · rcases ow k hk with h8 | h8
        · rcases paint_cases (c := c) (p := fun k => H3.next ≤ k ∧ k < H4.next) (x := 5) (k := k) with ⟨q, _⟩ | ⟨_, _, q⟩
          · rw [q] at h8; exact .inl h8
          · exact .inr (by have := K2.1; omega)
        · exact .inr (by have := K5.1; omega)
    · have f1 : (b.kind == 1) = false := by simp [k1]
      by_cases k2 : b.kind = 2
      · have f2 : (b.kind == 2) = true := by simp [k2]
        repeat' (first | simp only [evr, nextP_norm, evd, evq, beq_self_eq_true, cond_true, cond_false, reduceIte, Nat.reduceEqDiff, Nat.reduceAdd, Int.reduceBNe, Int.reduceBEq, Int.reduceLT, Int.reduceLE, Int.reduceEq, evh, evp, Nat.reduceLeDiff, Nat.reduceSub, Nat.reduceBEq, typs, fw, q2, g2, ne2, f1, f2] | refine kCond2_by (fun hc => ?_) (fun hc => ?_) <;> try simp only [hc] | refine kPick_by (fun hc => ?_) (fun hc => ?_) <;> try simp only [hc] | refine kWant_by (fun hc => ?_) (fun hc => ?_) <;> try simp only [hc])
        generalize hh : Hp.set _ _ _ = H3
        have g4 : H3.get H2.next = some (.row [.int .i64 b.kind, .int .i64 0, .int .i64 0, .string ByteArray.empty, .bool false, .slice none 0 0, .int .i64 0, .int .i64 0, .int .i64 0, .int .i64 0] 34 (.rw 0 [])) := by rw [← hh]; exact Hp.get_set_self _ _ _
        have K3 : Keep H2 H3 := by rw [← hh]; exact (Keep.push _ _).set (Nat.le_refl _)
        have hx3 : H3.next = H2.next + 1 := by rw [← hh]; rfl
        have ne3 : (br = H2.next) = False := by have := r.lb; simp; omega
        have ne4 : (H2.next = br) = False := by have := r.lb; simp; omega
        have c0 : ∀ k, h.next ≤ k → c k = 0 := fun k hk => Decidable.byContradiction fun h0 => by have := r.lt k h0; omega
        have r3 := r.keeps (K2.trans K3)
        have rw3 := r3.rw
        have hq : ∀ x, (if br = H2.next then x else rowOf H2 br) = rowOf H3 br := fun x => by rw [if_neg (by rw [ne3]; exact fun h => h), rH2.rw, r3.rw]
        have hfew := ok.few
        have rp := r3.keeps (Keep.push H3 (.row [.bool true] 4 (.rw 0 [])))
        obtain ⟨vD', h4, a4, g4D, n4, s4⟩ := app_bo (e := true) rp.d (by omega) (Hp.get_push_self _ _)
        have gb4 := (s4 br rp.lb (by rw [rp.me]; decide)).trans rp.row
        have rb4 := rowOf_rw gb4
        obtain ⟨y1, y2⟩ := g4D.cell
        have r5 := appD rp g4D ⟨n4, s4⟩
        have ld := BoSl.len r5.bo
        have wd : IntKind.i64.wrap (((T.D ++ [true]).length : Int) - 1) = (T.D.length : Int) := by rw [wrap64 (by simp only [List.length_append, List.length_cons, List.length_nil]; omega) (by simp only [List.length_append, List.length_cons, List.length_nil]; omega)]; simp only [List.length_append, List.length_cons, List.length_nil]; omega
        have gx4 : h4.get H2.next = _ := (s4 H2.next (show H2.next < H3.next + 1 by omega) (by rw [c0 _ K2.1]; decide)).trans ((Hp.get_push_lt (by omega)).trans g4)
        have rx4 := rowOf_rw gx4
        repeat' (first | simp only [evr, nextP_norm, evd, evq, beq_self_eq_true, cond_true, cond_false, reduceIte, Nat.reduceEqDiff, Nat.reduceAdd, Int.reduceBNe, Int.reduceBEq, Int.reduceLT, Int.reduceLE, Int.reduceEq, evh, evp, Nat.reduceLeDiff, Nat.reduceSub, Nat.reduceBEq, typs, hq, rH2.rw, rw3, a4, gb4, rb4, y1, y2, ld, wd, gx4, rx4, ne3, ne4] | refine kCond2_by (fun hc => ?_) (fun hc => ?_) <;> try simp only [hc] | refine kPick_by (fun hc => ?_) (fun hc => ?_) <;> try simp only [hc] | refine kWant_by (fun hc => ?_) (fun hc => ?_) <;> try simp only [hc])
        generalize hh : Hp.set (Hp.set h4 _ _) _ _ = H5
        have nb : H2.next ≠ br := by have := r.lb; omega
        have g5 : H5.get H2.next = some (.row [.int .i64 b.kind, .int .i64 0, .int .i64 T.D.length, .string ByteArray.empty, .bool false, .slice none 0 0, .int .i64 0, .int .i64 0, .int .i64 0, .int .i64 0] 34 (.rw 0 [])) := by rw [← hh]; exact Hp.get_set_self _ _ _
        have s5 : ∀ k, k ≠ H2.next → H5.get k = (h4.set br (.row [vB, vL, vD'] 97 (.rw 0 []))).get k := fun k hk => by rw [← hh]; exact Hp.get_set_ne hk
        have hx5 : H5.next = h4.next := by rw [← hh]; rfl
        clear hh
        have q5 := rowOf_rw g5
        have eP : (H3.push (.row [.bool true] 4 (.rw 0 []))).next = H3.next + 1 := rfl
        have r6 := r5.keep (h' := H5) (Nat.le_of_eq hx5.symm) fun k hk => s5 k (by
          rintro rfl
          rcases paint_cases (c := c) (p := (· = (H3.push (.row [.bool true] 4 (.rw 0 []))).next)) (x := 4) (k := H2.next) with ⟨q, _⟩ | ⟨_, _, q⟩
          · rw [q, c0 _ K2.1] at hk; exact hk rfl
          · omega)
        have cl : T.clean b = ⟨b.kind, 0, T.D.length, ByteArray.empty, false, [], noBk⟩ := by unfold Hi.clean; rw [if_neg k1, if_pos k2, k2]
        obtain ⟨vB', h6, ea, gb, rb, w1, w2, ln, rs, vL', h7, ea2, gb2, rb2, w3, w4, c', cs', rF, nx, sm, ow⟩ := add_fin (b := ⟨b.kind, 0, T.D.length, ByteArray.empty, false, [], noBk⟩) (sl := .slice none 0 0) r6 hL (Nat.le_trans hB (by decide)) (.inl ⟨rfl, rfl⟩) d s
        dsimp only [noBk] at ea ea2 ln
        have ws : IntKind.i64.wrap (((T.B.length + 1 : Nat) : Int) - 1) = (T.B.length : Int) := by rw [wrap64 (by omega) (by omega)]; omega
        refine Wp_drawE [0, 0, 0, 0, 1, 1, 2, 4, 0, 0, 4] (KR.mk (by kernel_rfl)) ?_
        repeat' (first | simp only [evr, nextP_norm, evd, evq, beq_self_eq_true, cond_true, cond_false, reduceIte, Nat.reduceEqDiff, Nat.reduceAdd, Int.reduceBNe, Int.reduceBEq, Int.reduceLT, Int.reduceLE, Int.reduceEq, evh, evp, Nat.reduceLeDiff, Nat.reduceSub, Nat.reduceBEq, typs, r6.rw, q5, ea, gb, rb, w1, w2] | refine kCond2_by (fun hc => ?_) (fun hc => ?_) <;> try simp only [hc] | refine kPick_by (fun hc => ?_) (fun hc => ?_) <;> try simp only [hc] | refine kWant_by (fun hc => ?_) (fun hc => ?_) <;> try simp only [hc])
        refine Wp_drawE [0, 0, 0, 0, 1, 0, 0, 0, 0, 1, 0, 0, 0, 0, 2, 4, 0, 0, 4] (KR.mk (by kernel_rfl)) ?_
        repeat' (first | simp only [evr, nextP_norm, evd, evq, beq_self_eq_true, cond_true, cond_false, reduceIte, Nat.reduceEqDiff, Nat.reduceAdd, Int.reduceBNe, Int.reduceBEq, Int.reduceLT, Int.reduceLE, Int.reduceEq, evh, evp, Nat.reduceLeDiff, Nat.reduceSub, Nat.reduceBEq, typs, rs, ln, ws, ea2, gb2, rb2, w3, w4] | refine kCond2_by (fun hc => ?_) (fun hc => ?_) <;> try simp only [hc] | refine kPick_by (fun hc => ?_) (fun hc => ?_) <;> try simp only [hc] | refine kWant_by (fun hc => ?_) (fun hc => ?_) <;> try simp only [hc])
        have e0 : T.added d s b = ⟨T.B ++ [⟨b.kind, 0, T.D.length, ByteArray.empty, false, [], noBk⟩], T.L ++ [⟨d, T.B.length, s⟩], T.D ++ [true]⟩ := by unfold Hi.added; rw [cl, if_pos k2]
        rw [e0] at oka aca
        have hx2' := K2.1
        refine ⟨by rw [cl], _, ⟨c', vB', vL', vD', cs', fun k => Iff.rfl, by rw [e0]; exact rF, by rw [e0]; exact oka, by rw [e0]; exact aca⟩, upd_of hF (by show h.next ≤ h7.next; omega) (fun k hk hc => ?_) fun k hk => ?_⟩
        · have n1 : k ≠ H2.next := by omega
          have n2 : k ≠ br := by rintro rfl; rw [r.me] at hc; cases hc
          rw [sm k (by omega) (by rw [paint_out (by omega)]; exact hc), s5 k n1, Hp.get_set_ne n2, s4 k (by omega) (by rw [hc]; decide), Hp.get_push_lt (by omega), K3.2 k (by omega)]
          exact K2.2 k hk
        · rcases ow k hk with h8 | h8
          · rcases paint_cases (c := c) (p := (· = (H3.push (.row [.bool true] 4 (.rw 0 []))).next)) (x := 4) (k := k) with ⟨q, _⟩ | ⟨_, _, q⟩
            · rw [q] at h8; exact .inl h8
            · exact .inr (by omega)
          · exact .inr (by omega)
      · have k3 : b.kind = 3 := Decidable.byContradiction fun k3 => by
          unfold Hi.cleanE at hce
          rw [if_neg k1, if_neg k2, if_neg k3] at hce
          cases hce
        have f2 : (b.kind == 2) = false := by simp [k2]
        have f3 : (b.kind == 3) = true := by simp [k3]
        have cl : T.clean b = ⟨b.kind, 0, 0, b.link, false, [], noBk⟩ := by unfold Hi.clean; rw [if_neg k1, if_neg k2, k3]
        repeat' (first | simp only [evr, nextP_norm, evd, evq, beq_self_eq_true, cond_true, cond_false, reduceIte, Nat.reduceEqDiff, Nat.reduceAdd, Int.reduceBNe, Int.reduceBEq, Int.reduceLT, Int.reduceLE, Int.reduceEq, evh, evp, Nat.reduceLeDiff, Nat.reduceSub, Nat.reduceBEq, typs, fw, q2, g2, ne2, f1, f2, f3] | refine kCond2_by (fun hc => ?_) (fun hc => ?_) <;> try simp only [hc] | refine kPick_by (fun hc => ?_) (fun hc => ?_) <;> try simp only [hc] | refine kWant_by (fun hc => ?_) (fun hc => ?_) <;> try simp only [hc])
        generalize hh : Hp.set _ _ _ = H5
        have g5 : H5.get H2.next = some (.row [.int .i64 b.kind, .int .i64 0, .int .i64 0, .string b.link, .bool false, .slice none 0 0, .int .i64 0, .int .i64 0, .int .i64 0, .int .i64 0] 34 (.rw 0 [])) := by rw [← hh]; exact Hp.get_set_self _ _ _
        have K3 : Keep H2 H5 := by rw [← hh]; exact ((Keep.push _ _).set (Nat.le_refl _)).set (Nat.le_refl _)
        have hx5 : H5.next = H2.next + 1 := by rw [← hh]; rfl
        clear hh
        have q5 := rowOf_rw g5
        have r6 := r.keeps (K2.trans K3)
        obtain ⟨vB', h6, ea, gb, rb, w1, w2, ln, rs, vL', h7, ea2, gb2, rb2, w3, w4, c', cs', rF, nx, sm, ow⟩ := add_fin (b := ⟨b.kind, 0, 0, b.link, false, [], noBk⟩) (sl := .slice none 0 0) r6 hL (Nat.le_trans hB (by decide)) (.inl ⟨rfl, rfl⟩) d s
        dsimp only [noBk] at ea ea2 ln
        have ws : IntKind.i64.wrap (((T.B.length + 1 : Nat) : Int) - 1) = (T.B.length : Int) := by rw [wrap64 (by omega) (by omega)]; omega
        refine Wp_drawE [0, 0, 0, 0, 1, 1, 2, 4, 0, 0, 4] (KR.mk (by kernel_rfl)) ?_
        repeat' (first | simp only [evr, nextP_norm, evd, evq, beq_self_eq_true, cond_true, cond_false, reduceIte, Nat.reduceEqDiff, Nat.reduceAdd, Int.reduceBNe, Int.reduceBEq, Int.reduceLT, Int.reduceLE, Int.reduceEq, evh, evp, Nat.reduceLeDiff, Nat.reduceSub, Nat.reduceBEq, typs, r6.rw, q5, ea, gb, rb, w1, w2] | refine kCond2_by (fun hc => ?_) (fun hc => ?_) <;> try simp only [hc] | refine kPick_by (fun hc => ?_) (fun hc => ?_) <;> try simp only [hc] | refine kWant_by (fun hc => ?_) (fun hc => ?_) <;> try simp only [hc])
        refine Wp_drawE [0, 0, 0, 0, 1, 0, 0, 0, 0, 1, 0, 0, 0, 0, 2, 4, 0, 0, 4] (KR.mk (by kernel_rfl)) ?_
        repeat' (first | simp only [evr, nextP_norm, evd, evq, beq_self_eq_true, cond_true, cond_false, reduceIte, Nat.reduceEqDiff, Nat.reduceAdd, Int.reduceBNe, Int.reduceBEq, Int.reduceLT, Int.reduceLE, Int.reduceEq, evh, evp, Nat.reduceLeDiff, Nat.reduceSub, Nat.reduceBEq, typs, rs, ln, ws, ea2, gb2, rb2, w3, w4] | refine kCond2_by (fun hc => ?_) (fun hc => ?_) <;> try simp only [hc] | refine kPick_by (fun hc => ?_) (fun hc => ?_) <;> try simp only [hc] | refine kWant_by (fun hc => ?_) (fun hc => ?_) <;> try simp only [hc])
        have e0 : T.added d s b = ⟨T.B ++ [⟨b.kind, 0, 0, b.link, false, [], noBk⟩], T.L ++ [⟨d, T.B.length, s⟩], T.D⟩ := by unfold Hi.added; rw [cl, if_neg k2]
        rw [e0] at oka aca
        have hx2' := K2.1
        refine ⟨by rw [cl], _, ⟨c', vB', vL', vD, cs', fun k => Iff.rfl, by rw [e0]; exact rF, by rw [e0]; exact oka, by rw [e0]; exact aca⟩, upd_of hF (by show h.next ≤ h7.next; omega) (fun k hk hc => ?_) fun k hk => ?_⟩
        · rw [sm k (by omega) hc, K3.2 k (by omega)]
          exact K2.2 k hk
        · rcases ow k hk with h8 | h8
          · exact .inl h8
          · exact .inr (by omega)
  · have fw : (T.why d s b != 0) = true := by simpa using hw
    repeat' (first | simp only [evr, nextP_norm, evd, evq, beq_self_eq_true, cond_true, cond_false, reduceIte, Nat.reduceEqDiff, Nat.reduceAdd, Int.reduceBNe, Int.reduceBEq, Int.reduceLT, Int.reduceLE, Int.reduceEq, evh, evp, Nat.reduceLeDiff, Nat.reduceSub, Nat.reduceBEq, typs, fw] | refine kCond2_by (fun hc => ?_) (fun hc => ?_) <;> try simp only [hc] | refine kPick_by (fun hc => ?_) (fun hc => ?_) <;> try simp only [hc] | refine kWant_by (fun hc => ?_) (fun hc => ?_) <;> try simp only [hc])
    refine ⟨by rw [if_neg hw], F, ?_⟩
    rw [if_neg hw]
    exact ⟨⟨c, vB, vL, vD, cs, hF, r.keeps K2, ok, ha⟩, ⟨K2.1, fun k hk _ => K2.2 k hk, fun _ hk => .inl hk⟩⟩
end
end Go.Proofs.YtncmgiddcefpcaaGreatDoor
