/- The program's tree and the reference's, side by side. -/
import Derived.Test.YtncmgiddcefpcaaGreatDoorConJf
namespace Go.Proofs.YtncmgiddcefpcaaGreatDoor
open Go Go.Ev Go.Con
set_option linter.unusedSimpArgs false
set_option linter.unusedVariables false
set_option maxRecDepth 100000
theorem RefAt.keep {h h' : Hp} {G : Nat → Prop} {R : Hi} {br : Nat} (r : RefAt h G R br) (hn : h.next ≤ h'.next) (hs : ∀ k, G k → h'.get k = h.get k) : RefAt h' G R br := by
  obtain ⟨c, vB, vL, vD, cs, hF, r, ok, ha⟩ := r
  exact ⟨c, vB, vL, vD, cs, hF, r.keep hn fun k hk => hs k ((hF k).2 hk), ok, ha⟩
theorem RefAt.lt {h : Hp} {G : Nat → Prop} {R : Hi} {br : Nat} (r : RefAt h G R br) {k : Nat} (hk : G k) : k < h.next := by
  obtain ⟨c, vB, vL, vD, cs, hF, r, _⟩ := r
  exact r.lt k ((hF k).1 hk)
theorem TreeAt.ltF' {h : Hp} {F : Nat → Prop} {T : Hi} {bt : Nat} (t : TreeAt h F T bt) {k : Nat} (hk : F k) : k < h.next := by obtain ⟨_, _, _, _, t⟩ := t; exact t.lt k hk
/-- Both trees; P are blocks that are neither's. -/
structure Two (h : Hp) (P F G : Nat → Prop) (T R : Hi) (bt br : Nat) : Prop where
  t : TreeAt h F T bt
  r : RefAt h G R br
  dj : ∀ k, F k → ¬ G k
  p : ∀ k, P k → ¬ F k ∧ ¬ G k ∧ k < h.next
section
variable {h h' : Hp} {P F F' G G' : Nat → Prop} {T T' R R' : Hi} {bt br : Nat}
theorem Two.keeps (x : Two h P F G T R bt br) (k : Keep h h') : Two h' P F G T R bt br :=
  ⟨x.t.keeps k, x.r.keep k.1 fun j hj => k.2 j (x.r.lt hj), x.dj, fun j hj => ⟨(x.p j hj).1, (x.p j hj).2.1, Nat.lt_of_lt_of_le (x.p j hj).2.2 k.1⟩⟩
theorem Two.tree (x : Two h P F G T R bt br) (u : Upd h F h' F') (t : TreeAt h' F' T' bt) : Two h' P F' G T' R bt br ∧ ∀ k, P k → h'.get k = h.get k := by
  refine ⟨⟨t, x.r.keep u.next fun k hk => u.same k (x.r.lt hk) fun hf => x.dj k hf hk, fun k hf hg => ?_, fun k hk => ⟨fun hf => ?_, (x.p k hk).2.1, Nat.lt_of_lt_of_le (x.p k hk).2.2 u.next⟩⟩, fun k hk => u.same k (x.p k hk).2.2 (x.p k hk).1⟩
  · rcases u.own k hf with h1 | h1
    · exact x.dj k h1 hg
    · have := x.r.lt hg; omega
  · rcases u.own k hf with h1 | h1
    · exact (x.p k hk).1 h1
    · have := (x.p k hk).2.2; omega
theorem Two.ref (x : Two h P F G T R bt br) (u : Upd h G h' G') (r : RefAt h' G' R' br) : Two h' P F G' T R' bt br ∧ ∀ k, P k → h'.get k = h.get k := by
  refine ⟨⟨x.t.keep u.next fun k hk => u.same k (x.t.ltF' hk) fun hg => x.dj k hk hg, r, fun k hf hg => ?_, fun k hk => ⟨(x.p k hk).1, fun hg => ?_, Nat.lt_of_lt_of_le (x.p k hk).2.2 u.next⟩⟩, fun k hk => u.same k (x.p k hk).2.2 (x.p k hk).2.1⟩
  · rcases u.own k hg with h1 | h1
    · exact x.dj k hf h1
    · have := x.t.ltF' hf; omega
  · rcases u.own k hg with h1 | h1
    · exact (x.p k hk).2.1 h1
    · have := (x.p k hk).2.2; omega
/-- One block more that is neither's. -/
theorem Two.more (x : Two h P F G T R bt br) {b : Nat} (hb : b < h.next) (hF : ¬ F b) (hG : ¬ G b) : Two h (fun k => P k ∨ k = b) F G T R bt br :=
  ⟨x.t, x.r, x.dj, fun k hk => by
    rcases hk with hk | rfl
    · exact x.p k hk
    · exact ⟨hF, hG, hb⟩⟩
end
/-- Both new. -/
theorem Two.start {h0 h1 h2 : Hp} {F G : Nat → Prop} {T R : Hi} {bt br : Nat} (k1 : Keep h0 h1) (t : TreeAt h1 F T bt) (hF : ∀ k, F k → h0.next ≤ k) (k2 : Keep h1 h2) (r : RefAt h2 G R br) (hG : ∀ k, G k → h1.next ≤ k) : Two h2 (fun k => k < h0.next) F G T R bt br :=
  ⟨t.keeps k2, r, fun k hf hg => by have := t.ltF' hf; have := hG k hg; omega, fun k hk => ⟨fun hf => by have := hF k hf; omega, fun hg => by have := hG k hg; have := k1.1; omega, by have := k1.1; have := k2.1; omega⟩⟩
end Go.Proofs.YtncmgiddcefpcaaGreatDoor
