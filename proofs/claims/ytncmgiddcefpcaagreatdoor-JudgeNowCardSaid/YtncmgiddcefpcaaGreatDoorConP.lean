/- The tree in the heap, as the model's hierarchy: New, Look, ByUID, Add. -/
import Derived.Test.YtncmgiddcefpcaaGreatDoorConV
namespace Go.Proofs.YtncmgiddcefpcaaGreatDoor
open Go Go.Ev Go.Con
set_option linter.unusedSimpArgs false
set_option linter.unusedVariables false
set_option maxRecDepth 100000

/-- A branch's block, by its number. -/
def nodeF (nb : List Nat) (o : Option Nat) : Option Nat := o.bind fun i => nb[i]?
theorem nodeF_isSome {nb : List Nat} {o : Option Nat} (h : ∀ i, o = some i → i < nb.length) : (nodeF nb o).isSome = o.isSome := by
  cases o with
  | none => rfl
  | some i => simp [nodeF, List.getElem?_eq_getElem (h i rfl)]
theorem nodeF_snoc {nb : List Nat} {n : Nat} {o : Option Nat} (h : ∀ i, o = some i → i < nb.length) : nodeF (nb ++ [n]) o = nodeF nb o := by
  cases o with
  | none => rfl
  | some i => simp [nodeF, List.getElem?_append_left (h i rfl)]
theorem nodeF_new {nb : List Nat} {n i : Nat} (h : i = nb.length) : nodeF (nb ++ [n]) (some i) = some n := by subst h; simp [nodeF]

structure TreeB (h : Hp) (F : Nat → Prop) (T : Hi) (bt bl bd bu : Nat) (nb : List Nat) : Prop where
  len : nb.length = T.B.length
  core : CoreAt h bt bl bd bu (fun k => nodeF nb (T.getF k)) T.dirF (fun u => nodeF nb (T.seg u)) ((T.D.length : Int) - 1)
  node : ∀ e ∈ T.L, ∃ n, nb[e.id]? = some n ∧ F n ∧ NodeAt h F n ⟨T.br e.id, e.dir, T.many e.id⟩
  nd : nb.Nodup
  nF : ∀ n ∈ nb, F n
  own : F bt ∧ F bl ∧ F bd ∧ F bu
  lt : ∀ k, F k → k < h.next
  ok : T.Ok
  acl : ∀ i, (T.br i).acl.length ≤ 1000000000
def TreeAt (h : Hp) (F : Nat → Prop) (T : Hi) (bt : Nat) : Prop := ∃ bl bd bu nb, TreeB h F T bt bl bd bu nb
/-- What a call on the tree leaves: nothing has changed but the tree and new blocks; the tree has no other blocks. -/
structure Upd (h : Hp) (F : Nat → Prop) (h' : Hp) (F' : Nat → Prop) : Prop where
  next : h.next ≤ h'.next
  same : ∀ k, k < h.next → ¬ F k → h'.get k = h.get k
  own : ∀ k, F' k → F k ∨ h.next ≤ k
section
variable {h : Hp} {F : Nat → Prop} {T : Hi} {bt bl bd bu : Nat} {nb : List Nat}
theorem TreeB.ltb (t : TreeB h F T bt bl bd bu nb) : bt < h.next ∧ bl < h.next ∧ bd < h.next ∧ bu < h.next := ⟨t.lt _ t.own.1, t.lt _ t.own.2.1, t.lt _ t.own.2.2.1, t.lt _ t.own.2.2.2⟩
theorem TreeB.getlt (t : TreeB h F T bt bl bd bu nb) (k : Int × ByteArray) : ∀ i, T.getF k = some i → i < nb.length := fun i e => by rw [t.len]; exact t.ok.get_lt e
theorem TreeB.seglt (t : TreeB h F T bt bl bd bu nb) (u : Int) : ∀ i, T.seg u = some i → i < nb.length := fun i e => by rw [t.len]; exact t.ok.seg_lt e
theorem TreeB.out_id (t : TreeB h F T bt bl bd bu nb) {e : En} (he : e ∈ T.L) : OutOf h F (nodeF nb (some e.id)) (some (T.br e.id)) := by
  obtain ⟨n, h1, _, h2⟩ := t.node e he
  have : nodeF nb (some e.id) = some n := h1
  rw [this]
  exact ⟨_, h2, rfl, t.acl _⟩
theorem TreeB.out_get (t : TreeB h F T bt bl bd bu nb) (d : Int) (s : ByteArray) : OutOf h F (nodeF nb (T.getF (d, s))) (T.look d s) := by
  unfold Hi.look Hi.get
  cases hg : T.getF (d, s) with
  | none => trivial
  | some i =>
    obtain ⟨e, he, _, rfl⟩ := Hi.get_some hg
    exact t.out_id he
theorem TreeB.out_seg (t : TreeB h F T bt bl bd bu nb) (u : Int) : OutOf h F (nodeF nb (T.seg u)) (T.byUID u) := by
  unfold Hi.byUID
  cases hg : T.seg u with
  | none => trivial
  | some i =>
    obtain ⟨e, he, _, rfl⟩ := Hi.seg_some hg
    exact t.out_id he
theorem TreeB.keep (t : TreeB h F T bt bl bd bu nb) {h' : Hp} (hn : h.next ≤ h'.next) (hs : ∀ k, F k → h'.get k = h.get k) : TreeB h' F T bt bl bd bu nb := by
  have c := t.core
  have o := t.own
  refine ⟨t.len, ⟨by rw [hs bt o.1]; exact c.row, c.l.eq (hs bl o.2.1), c.d.eq (hs bd o.2.2.1), c.u.eq (hs bu o.2.2.2), c.ld, c.lu, c.du⟩, fun e he => ?_, t.nd, t.nF, o, fun k hk => Nat.lt_of_lt_of_le (t.lt k hk) hn, t.ok, t.acl⟩
  obtain ⟨n, h1, h2, sl, h3, h4, h5⟩ := t.node e he
  refine ⟨n, h1, h2, sl, Nat.lt_of_lt_of_le h3 hn, by rw [hs n h2]; exact h4, ?_⟩
  rcases h5 with h5 | ⟨b, o, k, c, all, st, e1, e2, e3, e4, e5, e6⟩
  · exact .inl h5
  · exact .inr ⟨b, o, k, c, all, st, e1, e2, e3, Nat.lt_of_lt_of_le e4 hn, by rw [hs b e3]; exact e5, e6⟩
theorem TreeAt.keep {bt : Nat} (t : TreeAt h F T bt) {h' : Hp} (hn : h.next ≤ h'.next) (hs : ∀ k, F k → h'.get k = h.get k) : TreeAt h' F T bt := by
  obtain ⟨bl, bd, bu, nb, t⟩ := t; exact ⟨bl, bd, bu, nb, t.keep hn hs⟩
theorem TreeAt.keeps {bt : Nat} (t : TreeAt h F T bt) {h' : Hp} (k : Keep h h') : TreeAt h' F T bt := by
  obtain ⟨bl, bd, bu, nb, t⟩ := t; exact ⟨bl, bd, bu, nb, t.keep k.1 fun j hj => k.2 j (t.lt j hj)⟩

theorem tLook_spec (t : TreeAt h F T bt) (d : Int) (s : ByteArray) : Meets kon 85 [ptrV bt, .int .i64 d, .string s] h (OutP (T.look d s) h) := by
  obtain ⟨bl, bd, bu, nb, t⟩ := t
  exact look_spec t.core t.ltb d s (t.out_get d s)
theorem tByUID_spec (t : TreeAt h F T bt) (u : Int) : Meets kon 89 [ptrV bt, .int .i64 u] h (OutP (T.byUID u) h) := by
  obtain ⟨bl, bd, bu, nb, t⟩ := t
  exact byUID_spec t.core t.ltb u (t.out_seg u)

theorem tNew_spec (h : Hp) : Meets kon 13 [] h fun v h' => ∃ F bt, v = ptrV bt ∧ Keep h h' ∧ TreeAt h' F newHi bt ∧ ∀ k, F k → h.next ≤ k := by
  refine (new_spec h).mono ?_
  rintro v h' ⟨rfl, hk, hx, c⟩
  refine ⟨fun k => h.next ≤ k ∧ k < h.next + 4, _, rfl, hk, ⟨h.next, h.next + 1, h.next + 2, [], ⟨rfl, ?_, by simp [newHi], .nil, by simp, ⟨⟨by omega, by omega⟩, ⟨by omega, by omega⟩, ⟨by omega, by omega⟩, ⟨by omega, by omega⟩⟩, fun k hk' => by omega, Hi.newHi_ok, fun i => by simp [newHi, Hi.br, noBn]⟩⟩, fun k hk' => hk'.1⟩
  have e2 : newHi.dirF = upd (fun _ => none) 0 (some 0) := by
    funext d
    unfold Hi.dirF Hi.is upd newHi Hi.count
    by_cases hd : d = 0
    · subst hd; simp
    · rw [if_neg hd, if_neg]
      simp only [Bool.and_eq_true, decide_eq_true_eq, beq_iff_eq]
      rintro ⟨h1, h2⟩
      have : d.toNat < 1 := by
        have := (List.getElem?_eq_some_iff.1 h2).1; simpa using this
      omega
  rw [e2]
  exact c

theorem TreeB.clean_eq (t : TreeB h F T bt bl bd bu nb) (b : Bn) : cleanR (fun u => nodeF nb (T.seg u)) ((T.D.length : Int) - 1) b = if T.cleanE b = 0 then (T.clean b, 0) else (noBn, T.cleanE b) := by
  unfold cleanR Hi.cleanE Hi.clean
  rw [nodeF_isSome (t.seglt b.uid)]
  by_cases k1 : b.kind = 1
  · simp only [if_pos k1]
    split
    · rfl
    · split <;> rfl
  · simp only [if_neg k1]
    by_cases k2 : b.kind = 2
    · simp only [if_pos k2]
      rw [show (T.D.length : Int) - 1 + 1 = T.D.length by omega]; rfl
    · simp only [if_neg k2]
      by_cases k3 : b.kind = 3
      · simp only [if_pos k3]
        split <;> rfl
      · simp only [if_neg k3]; rfl
theorem TreeB.addE_eq (t : TreeB h F T bt bl bd bu nb) (d : Int) (s : ByteArray) (b : Bn) : addE (fun k => nodeF nb (T.getF k)) T.dirF (fun u => nodeF nb (T.seg u)) ((T.D.length : Int) - 1) d s b = T.why d s b := by
  unfold addE Hi.why Hi.get
  rw [t.clean_eq, nodeF_isSome (t.getlt (d, s))]
  have e1 : (T.dirF d).isNone = !T.is d := by unfold Hi.dirF; cases T.is d <;> rfl
  rw [e1]
  cases T.is d with
  | false => rfl
  | true =>
    simp only [Bool.not_true, Bool.false_eq_true, Bool.true_eq_false, if_false]
    cases mayN s with
    | false => rfl
    | true =>
      simp only [Bool.true_eq_false, if_false]
      cases T.getF (d, s) with
      | some i => rfl
      | none =>
        simp only [Option.isSome_none, Bool.false_eq_true, if_false]
        split
        · rename_i hz; exact hz.symm
        · rfl
/-- Only the tree's own blocks have changed: rows of terms are as they were. -/
theorem CoreAt.sameTm {fL : Int × ByteArray → Option Nat} {fD : Int → Option Int} {fU : Int → Option Nat} {nx : Int} (c : CoreAt h bt bl bd bu fL fD fU nx) {h' : Hp} (hn : h.next ≤ h'.next)
    (hs : ∀ k, k < h.next → k ≠ bt → k ≠ bl → k ≠ bd → k ≠ bu → h'.get k = h.get k) : Same 65 h h' := ⟨hn, fun b all st hb hg => by
  obtain ⟨e1, e2, e3⟩ := c.row_ne hg
  rw [hs b hb (get_ne hg c.row (fun e => by simp at e)) e1 e2 e3]
  exact hg⟩
theorem br_out (T : Hi) {i : Nat} (h : ¬ i < T.B.length) : T.br i = noBn := by
  unfold Hi.br; rw [List.getElem?_eq_none (by omega)]; rfl
theorem TreeB.added (t : TreeB h F T bt bl bd bu nb) {d : Int} {s : ByteArray} {b : Bn} (hw : T.why d s b = 0) (hl : b.acl.length ≤ 1000000000) {h' : Hp} {n : Nat}
    (q : AddQ h bt bl bd bu (fun k => nodeF nb (T.getF k)) T.dirF (fun u => nodeF nb (T.seg u)) ((T.D.length : Int) - 1) d s (T.clean b) h' n) :
    TreeB h' (fun k => F k ∨ h.next ≤ k ∧ k < h'.next) (T.added d s b) bt bl bd bu (nb ++ [n]) := by
  have hnlt : n < h'.next := by obtain ⟨sl, h1, _⟩ := q.node; exact h1
  have hnn : ∀ k, F k → k ≠ n := fun k hk e => by have := t.lt k hk; have := q.new; omega
  have hd : T.is d = true := by
    unfold Hi.why at hw; cases hi : T.is d with
    | true => rfl
    | false => rw [hi, if_pos rfl] at hw; cases hw
  have hg : T.getF (d, s) = none := by
    unfold Hi.why Hi.get at hw; cases hi : T.getF (d, s) with
    | none => rfl
    | some i => rw [hi, hd] at hw; simp only [Bool.true_eq_false, if_false, Option.isSome_some, if_true] at hw; split at hw <;> cases hw
  have hnd : ¬ d = (T.D.length : Int) := fun e => by
    unfold Hi.is at hd
    rw [e] at hd
    simp at hd
  have hkind : ((T.clean b).kind = 2 ↔ b.kind = 2) := by
    unfold Hi.clean; split
    · rename_i hk; simp [hk]
    · split
      · rename_i hk; simp [hk]
      · rename_i hk; simp [hk]
  have hseg : (T.clean b).kind = 1 → T.seg (T.clean b).uid = none := fun hk => by
    have hb1 : b.kind = 1 := by
      unfold Hi.clean at hk; split at hk
      · assumption
      · split at hk <;> simp at hk
    have hu : (T.clean b).uid = b.uid := by unfold Hi.clean; rw [if_pos hb1]
    rw [hu]
    unfold Hi.why Hi.cleanE at hw
    rw [hd] at hw
    simp only [Bool.true_eq_false, if_false, if_pos hb1] at hw
    cases hi : T.seg b.uid with
    | none => rfl
    | some i =>
      rw [hi] at hw
      simp only [Option.isSome_some, if_true] at hw
      split at hw
      · cases hw
      · split at hw
        · cases hw
        · split at hw <;> cases hw
  have sm := t.core.sameTm q.next q.same
  have ok' := t.ok.added hw
  refine ⟨by simp [Hi.added, t.len], ?_, fun e he => ?_, ?_, fun k hk => ?_, ⟨.inl t.own.1, .inl t.own.2.1, .inl t.own.2.2.1, .inl t.own.2.2.2⟩, fun k hk => ?_, ok', fun i => ?_⟩
  · have c := q.core
    have eL : (fun k => nodeF (nb ++ [n]) ((T.added d s b).getF k)) = upd (fun k => nodeF nb (T.getF k)) (d, s) (some n) := by
      have := Hi.getF_snoc (B := T.B) (L := T.L) (D := T.D) (e := ⟨d, T.B.length, s⟩) (T.B ++ [T.clean b]) (if b.kind = 2 then T.D ++ [true] else T.D) hg
      have e1 : (T.added d s b).getF = _ := this
      rw [e1]
      funext k
      by_cases hk : k = (d, s)
      · subst hk
        show nodeF (nb ++ [n]) (upd _ (d, s) _ (d, s)) = _
        rw [upd_self, upd_self, nodeF_new t.len.symm]
      · show nodeF (nb ++ [n]) (upd _ (d, s) _ k) = _
        rw [upd_ne _ _ hk, upd_ne _ _ hk]
        exact nodeF_snoc (t.getlt k)
    have cnt : ∀ d', (T.added d s b).count d' = T.count d' + if d = d' then 1 else 0 := fun d' => Hi.count_snoc (e := ⟨d, T.B.length, s⟩) _ _ d'
    have c0 : (T.dirF d).getD 0 = T.count d := by unfold Hi.dirF; rw [if_pos hd]; rfl
    have noD : T.count (T.D.length : Int) = 0 := by
      refine Nat.eq_zero_of_not_pos fun hp => ?_
      obtain ⟨e, he, h1⟩ := Hi.count_pos.1 hp
      have h2 := t.ok.dirs e he
      rw [h1] at h2
      unfold Hi.is at h2
      simp at h2
    have eD : (T.added d s b).dirF = (if (T.clean b).kind = 2 then upd (upd T.dirF d (some ((T.dirF d).getD 0 + 1))) ((T.D.length : Int) - 1 + 1) (some 0) else upd T.dirF d (some ((T.dirF d).getD 0 + 1))) := by
      rw [c0, show (T.D.length : Int) - 1 + 1 = T.D.length by omega]
      by_cases hk : b.kind = 2
      · have his : ∀ d', (T.added d s b).is d' = if d' = (T.D.length : Int) then true else T.is d' := fun d' => by
          have := Hi.is_snoc (L := T.L) (B := T.B) (D := T.D) (T.added d s b).B (T.added d s b).L d'
          have e : (T.added d s b) = ⟨(T.added d s b).B, (T.added d s b).L, T.D ++ [true]⟩ := by unfold Hi.added; simp [hk]
          rw [e]; exact this
        rw [if_pos (hkind.2 hk)]
        funext d'
        show (if (T.added d s b).is d' = true then some ((T.added d s b).count d' : Int) else none) = _
        rw [his, cnt]
        by_cases e1 : d' = (T.D.length : Int)
        · subst e1
          rw [upd_self, if_pos rfl, if_pos rfl, noD, if_neg hnd]; rfl
        · rw [upd_ne _ _ e1, if_neg e1]
          by_cases e2 : d' = d
          · subst e2
            rw [upd_self, if_pos hd, if_pos rfl]; simp
          · rw [upd_ne _ _ e2, if_neg (Ne.symm e2), Nat.add_zero]; rfl
      · have his : ∀ d', (T.added d s b).is d' = T.is d' := fun d' => by unfold Hi.added Hi.is; simp [hk]
        rw [if_neg (fun h => hk (hkind.1 h))]
        funext d'
        show (if (T.added d s b).is d' = true then some ((T.added d s b).count d' : Int) else none) = _
        rw [his, cnt]
        by_cases e2 : d' = d
        · subst e2
          rw [upd_self, if_pos hd, if_pos rfl]; simp
        · rw [upd_ne _ _ e2, if_neg (Ne.symm e2), Nat.add_zero]; rfl
    have eS : (fun u => nodeF (nb ++ [n]) ((T.added d s b).seg u)) = if (T.clean b).kind = 1 then upd (fun u => nodeF nb (T.seg u)) (T.clean b).uid (some n) else fun u => nodeF nb (T.seg u) := by
      have e1 : (T.added d s b).seg = _ := Hi.seg_added (B := T.B) (L := T.L) (D := T.D) (e := ⟨d, T.B.length, s⟩) (c := T.clean b) t.ok.ids rfl (if b.kind = 2 then T.D ++ [true] else T.D) hseg
      rw [e1]
      by_cases hk : (T.clean b).kind = 1
      · rw [if_pos hk, if_pos hk]
        funext u
        by_cases hu : u = (T.clean b).uid
        · subst hu
          rw [upd_self, upd_self, nodeF_new t.len.symm]
        · rw [upd_ne _ _ hu, upd_ne _ _ hu]
          exact nodeF_snoc (t.seglt u)
      · rw [if_neg hk, if_neg hk]
        funext u
        exact nodeF_snoc (t.seglt u)
    have eN : (((T.added d s b).D.length : Nat) : Int) - 1 = if (T.clean b).kind = 2 then (T.D.length : Int) - 1 + 1 else (T.D.length : Int) - 1 := by
      by_cases hk : b.kind = 2
      · rw [if_pos (hkind.2 hk)]; simp [Hi.added, hk]
      · rw [if_neg (fun h => hk (hkind.1 h))]; simp [Hi.added, hk]
    rw [eL, eD, eS, eN]
    exact c
  · have hmany : ∀ i, (T.added d s b).many i = T.many i + if T.B.length = i then 1 else 0 := fun i => Hi.many_snoc (e := ⟨d, T.B.length, s⟩) _ _ i
    have he' : e ∈ T.L ∨ e = ⟨d, T.B.length, s⟩ := by simpa [Hi.added] using he
    rcases he' with he | rfl
    · have hid := t.ok.ids e he
      obtain ⟨m, h1, h2, sl, h3, h4, h5⟩ := t.node e he
      have hbr : (T.added d s b).br e.id = T.br e.id := Hi.br_snoc hid
      have hne := t.core.row_ne h4
      refine ⟨m, by rw [List.getElem?_append_left (by rw [t.len]; exact hid)]; exact h1, .inl h2, sl, Nat.lt_of_lt_of_le h3 q.next, ?_, ?_⟩
      · rw [q.same m h3 (t.core.node_ne h4) hne.1 hne.2.1 hne.2.2, hbr, hmany, if_neg (by omega)]
        exact h4
      · rw [hbr]; exact h5.same sm fun k hk => .inl hk
    · obtain ⟨sl, h3, h4, h5⟩ := q.node
      have hbr : (T.added d s b).br T.B.length = T.clean b := Hi.br_new
      have h0 : T.many T.B.length = 0 := by
        refine Nat.eq_zero_of_not_pos fun hp => ?_
        obtain ⟨e, he, h1⟩ := Hi.many_pos.1 hp
        have := t.ok.ids e he
        omega
      refine ⟨n, by rw [← t.len]; simp, .inr ⟨q.new, h3⟩, sl, h3, ?_, ?_⟩
      · rw [hbr, hmany, h0, if_pos rfl]
        exact h4
      · rw [hbr]
        rcases h5 with h5 | ⟨b, o, k, c, all, st, e1, e2, e3, e4, e5⟩
        · exact .inl h5
        · exact .inr ⟨b, o, k, c, all, st, e1, e2, .inr ⟨e3, e4⟩, e4, e5⟩
  · rw [List.nodup_append]
    refine ⟨t.nd, by simp, fun a ha b hb => ?_⟩
    simp only [List.mem_singleton] at hb
    subst hb
    exact hnn a (t.nF a ha)
  · rcases List.mem_append.1 hk with hk | hk
    · exact .inl (t.nF k hk)
    · simp only [List.mem_singleton] at hk; subst hk; exact .inr ⟨q.new, hnlt⟩
  · rcases hk with hk | hk
    · exact Nat.lt_of_lt_of_le (t.lt k hk) q.next
    · exact hk.2
  · by_cases hi : i < T.B.length
    · have : (T.added d s b).br i = T.br i := Hi.br_snoc hi
      rw [this]; exact t.acl i
    · by_cases hi2 : i = T.B.length
      · subst hi2
        have : (T.added d s b).br T.B.length = T.clean b := Hi.br_new
        rw [this]
        unfold Hi.clean; split
        · exact hl
        · split <;> simp
      · rw [br_out _ (by simp [Hi.added]; omega)]; simp [noBn]
theorem tAdd_spec (t : TreeAt h F T bt) (hL : T.L.length ≤ 1000000000000) (hB : T.B.length ≤ 1000000000000) {b : Bn} {sl : Value} (hs : TmSl h sl b.acl) (hl : b.acl.length ≤ 1000000000) (d : Int) (s : ByteArray) :
    Meets kon 16 [ptrV bt, .int .i64 d, .string s, .agg (bnC b sl).toArray] h fun v h' => v = .tuple #[.int .i64 (T.add d s b).2.1, .int .i64 (T.add d s b).2.2] ∧ ∃ F', TreeAt h' F' (T.add d s b).1 bt ∧ Upd h F h' F' := by
  obtain ⟨bl, bd, bu, nb, t⟩ := t
  have hfew := t.ok.few
  have hcnt : ∀ d, 0 ≤ (T.dirF d).getD 0 ∧ (T.dirF d).getD 0 ≤ 1000000000000 := fun d => by
    have := Hi.count_le T d
    unfold Hi.dirF
    split
    · simp; omega
    · simp
  refine (add_spec t.core t.ltb (by omega) (by omega) hs hl d s (by have := (hcnt d).1; omega) (by have := (hcnt d).2; omega)).mono ?_
  intro v h' hv
  unfold AddP at hv
  rw [t.addE_eq, t.clean_eq] at hv
  unfold Hi.add
  rcases hv with ⟨h1, rfl, hk⟩ | ⟨h1, h2, n, h3⟩
  · rw [if_neg h1]
    exact ⟨rfl, F, ⟨bl, bd, bu, nb, t.keep hk.1 fun j hj => hk.2 j (t.lt j hj)⟩, hk.1, fun k hk1 _ => hk.2 k hk1, fun k hk' => .inl hk'⟩
  · have hc : T.cleanE b = 0 := by
      unfold Hi.why at h1
      split at h1
      · cases h1
      · split at h1
        · cases h1
        · split at h1
          · cases h1
          · exact h1
    rw [if_pos hc] at h2 h3
    rw [if_pos h1]
    refine ⟨h2, _, ⟨bl, bd, bu, _, t.added h1 hl h3⟩, h3.next, fun k hk1 hk2 => ?_, fun k hk => ?_⟩
    · exact h3.same k hk1 (fun e => hk2 (e ▸ t.own.1)) (fun e => hk2 (e ▸ t.own.2.1)) (fun e => hk2 (e ▸ t.own.2.2.1)) (fun e => hk2 (e ▸ t.own.2.2.2))
    · rcases hk with hk | hk
      · exact .inl hk
      · exact .inr hk.1
end
end Go.Proofs.YtncmgiddcefpcaaGreatDoor
