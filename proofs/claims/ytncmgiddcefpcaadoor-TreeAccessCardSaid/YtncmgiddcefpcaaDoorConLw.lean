/- A hierarchy and a store that are apart, behind what a law has of its own. -/
import Derived.Test.YtncmgiddcefpcaaDoorConOf
namespace Go.Proofs.YtncmgiddcefpcaaDoor
open Go Go.Ev Go.Con
set_option linter.unusedSimpArgs false
set_option linter.unusedVariables false
set_option maxRecDepth 100000
theorem TreeAt.lt {h : Hp} {F : Nat → Prop} {T : Hi} {bt : Nat} (t : TreeAt h F T bt) {k : Nat} (hk : F k) : k < h.next := by obtain ⟨_, _, _, _, t⟩ := t; exact t.lt k hk
theorem StoAt.lt {h : Hp} {F : Nat → Prop} {S : Sto} {bt : Nat} (t : StoAt h F S bt) {k : Nat} (hk : F k) : k < h.next := by obtain ⟨_, _, t⟩ := t; exact t.lt k hk
/-- The blocks below n are not theirs. -/
structure TS (n : Nat) (h : Hp) (F G : Nat → Prop) (T : Hi) (S : Sto) (bt bs : Nat) : Prop where
  t : TreeAt h F T bt
  s : StoAt h G S bs
  dj : ∀ k, F k → ¬ G k
  nF : ∀ k, F k → n ≤ k
  nG : ∀ k, G k → n ≤ k
  le : n ≤ h.next
section
variable {n : Nat} {h h' : Hp} {F F' G G' : Nat → Prop} {T T' : Hi} {S S' : Sto} {bt bs : Nat}
theorem TS.keeps (x : TS n h F G T S bt bs) (k : Keep h h') : TS n h' F G T S bt bs := ⟨x.t.keeps k, x.s.keeps k, x.dj, x.nF, x.nG, Nat.le_trans x.le k.1⟩
theorem TS.tree (x : TS n h F G T S bt bs) (u : Upd h F h' F') (t : TreeAt h' F' T' bt) : TS n h' F' G T' S bt bs ∧ ∀ k, k < n → h'.get k = h.get k := by
  have hs : ∀ k, G k → h'.get k = h.get k := fun k hk => u.same k (x.s.lt hk) fun hf => x.dj k hf hk
  refine ⟨⟨t, x.s.keep u.next hs, fun k hf hg => ?_, fun k hf => ?_, x.nG, Nat.le_trans x.le u.next⟩, fun k hk => u.same k (Nat.lt_of_lt_of_le hk x.le) fun hf => ?_⟩
  · rcases u.own k hf with h1 | h1
    · exact x.dj k h1 hg
    · have := x.s.lt hg; omega
  · rcases u.own k hf with h1 | h1
    · exact x.nF k h1
    · exact Nat.le_trans x.le h1
  · have := x.nF k hf; omega
theorem TS.sto (x : TS n h F G T S bt bs) (u : Upd h G h' G') (t : StoAt h' G' S' bs) : TS n h' F G' T S' bt bs ∧ ∀ k, k < n → h'.get k = h.get k := by
  have hs : ∀ k, F k → h'.get k = h.get k := fun k hk => u.same k (x.t.lt hk) fun hg => x.dj k hk hg
  refine ⟨⟨x.t.keep u.next hs, t, fun k hf hg => ?_, x.nF, fun k hg => ?_, Nat.le_trans x.le u.next⟩, fun k hk => u.same k (Nat.lt_of_lt_of_le hk x.le) fun hf => ?_⟩
  · rcases u.own k hg with h1 | h1
    · exact x.dj k hf h1
    · have := x.t.lt hf; omega
  · rcases u.own k hg with h1 | h1
    · exact x.nG k h1
    · exact Nat.le_trans x.le h1
  · have := x.nG k hf; omega
end
/-- The same, with the blocks that are the law's own. -/
structure TL (L : Nat → Prop) (h : Hp) (F G : Nat → Prop) (T : Hi) (S : Sto) (bt bs : Nat) : Prop where
  t : TreeAt h F T bt
  s : StoAt h G S bs
  dj : ∀ k, F k → ¬ G k
  nF : ∀ k, L k → ¬ F k
  nG : ∀ k, L k → ¬ G k
  lt : ∀ k, L k → k < h.next
section
variable {n : Nat} {L : Nat → Prop} {h h' : Hp} {F F' G G' : Nat → Prop} {T T' : Hi} {S S' : Sto} {bt bs : Nat}
theorem TS.own (x : TS n h F G T S bt bs) : TL (fun k => k < n) h F G T S bt bs := ⟨x.t, x.s, x.dj, fun k hk hf => by have := x.nF k hf; omega, fun k hk hg => by have := x.nG k hg; omega, fun k hk => Nat.lt_of_lt_of_le hk x.le⟩
theorem TL.keeps (x : TL L h F G T S bt bs) (k : Keep h h') : TL L h' F G T S bt bs := ⟨x.t.keeps k, x.s.keeps k, x.dj, x.nF, x.nG, fun j hj => Nat.lt_of_lt_of_le (x.lt j hj) k.1⟩
/-- A block that was made behind. -/
theorem TL.more (x : TL L h F G T S bt bs) (k : Keep h h') {b : Nat} (h1 : h.next ≤ b) (h2 : b < h'.next) : TL (fun j => L j ∨ j = b) h' F G T S bt bs := by
  have y := x.keeps k
  refine ⟨y.t, y.s, y.dj, fun j hj hf => ?_, fun j hj hg => ?_, fun j hj => ?_⟩
  · rcases hj with hj | rfl
    · exact x.nF j hj hf
    · have := x.t.lt hf; omega
  · rcases hj with hj | rfl
    · exact x.nG j hj hg
    · have := x.s.lt hg; omega
  · rcases hj with hj | rfl
    · exact y.lt j hj
    · exact h2
theorem TL.tree (x : TL L h F G T S bt bs) (u : Upd h F h' F') (t : TreeAt h' F' T' bt) : TL L h' F' G T' S bt bs ∧ ∀ k, L k → h'.get k = h.get k := by
  have hs : ∀ k, G k → h'.get k = h.get k := fun k hk => u.same k (x.s.lt hk) fun hf => x.dj k hf hk
  refine ⟨⟨t, x.s.keep u.next hs, fun k hf hg => ?_, fun k hk hf => ?_, x.nG, fun j hj => Nat.lt_of_lt_of_le (x.lt j hj) u.next⟩, fun k hk => u.same k (x.lt k hk) (x.nF k hk)⟩
  · rcases u.own k hf with h1 | h1
    · exact x.dj k h1 hg
    · have := x.s.lt hg; omega
  · rcases u.own k hf with h1 | h1
    · exact x.nF k hk h1
    · have := x.lt k hk; omega
theorem TL.sto (x : TL L h F G T S bt bs) (u : Upd h G h' G') (t : StoAt h' G' S' bs) : TL L h' F G' T S' bt bs ∧ ∀ k, L k → h'.get k = h.get k := by
  have hs : ∀ k, F k → h'.get k = h.get k := fun k hk => u.same k (x.t.lt hk) fun hg => x.dj k hk hg
  refine ⟨⟨x.t.keep u.next hs, t, fun k hf hg => ?_, x.nF, fun k hk hg => ?_, fun j hj => Nat.lt_of_lt_of_le (x.lt j hj) u.next⟩, fun k hk => u.same k (x.lt k hk) (x.nG k hk)⟩
  · rcases u.own k hg with h1 | h1
    · exact x.dj k hf h1
    · have := x.t.lt hf; omega
  · rcases u.own k hg with h1 | h1
    · exact x.nG k hk h1
    · have := x.lt k hk; omega
end
/-- A hierarchy with one segment. -/
def oneT (s : ByteArray) (c : Bn) : Hi := ⟨[c], [⟨0, 0, s⟩], [true]⟩
theorem one_add {s : ByteArray} {b : Bn} (hs : mayN s = true) (hk : b.kind = 1) (hu : 1 ≤ b.uid) (hl : listMay b.acl = true) (hb : bkMay b.b = true) : newHi.add 0 s b = (oneT s ⟨1, b.uid, 0, ByteArray.empty, b.object, b.acl, b.b⟩, 0, 0) := by
  have h1 : newHi.is 0 = true := rfl
  have h2 : (newHi.get 0 s) = none := rfl
  have h3 : newHi.cleanE b = 0 := by
    unfold Hi.cleanE
    rw [if_pos hk, if_neg (by
      rintro (h | h | h)
      · omega
      · rw [hl] at h; cases h
      · rw [hb] at h; cases h)]
    rfl
  have h4 : newHi.clean b = ⟨1, b.uid, 0, ByteArray.empty, b.object, b.acl, b.b⟩ := by unfold Hi.clean; rw [if_pos hk]
  unfold Hi.add Hi.why
  rw [h1, h2, h3]
  simp only [hs, h4, Bool.true_eq_false, if_false, Option.isSome_none, Bool.false_eq_true, if_true]
  unfold Hi.added
  rw [h4]
  simp [oneT, newHi, hk]
theorem one_uid {s : ByteArray} {c : Bn} (hk : c.kind = 1) : (oneT s c).byUID c.uid = some c := by
  unfold Hi.byUID Hi.seg oneT
  simp [Hi.isSeg, Hi.br, hk]
theorem one_get (s : ByteArray) (c : Bn) : (oneT s c).get 0 s = some 0 := by
  unfold Hi.get Hi.getF oneT
  simp [En.key]
theorem find_star (f : Fl) (u : ByteArray) (hu : u ≠ star) : findF [⟨star, f⟩] u = f := by
  have hm : listMay [⟨star, f⟩] = true := by rfl
  have h1 : ¬ star = u := fun e => hu e.symm
  unfold findF
  simp [hm, h1]
theorem find_user (f : Fl) (u : ByteArray) (hm : listMay [⟨u, f⟩] = true) : findF [⟨u, f⟩] u = f := by
  unfold findF
  simp [hm]
/-- A new slice of one term. -/
theorem tm_new {h : Hp} {t : Tm} {b : Nat} (hb : b < h.next) (hg : h.get b = some (.row [.string t.user, .bool t.f.r, .bool t.f.w, .bool t.f.e] 64 (.rw 0 []))) : TmSl h (.slice (some ⟨b, 0, none⟩) 1 2) [t] :=
  .inr ⟨b, 0, 1, 2, _, rfl, by omega, hb, rowOf_rw hg, rfl, rfl⟩
end Go.Proofs.YtncmgiddcefpcaaDoor
