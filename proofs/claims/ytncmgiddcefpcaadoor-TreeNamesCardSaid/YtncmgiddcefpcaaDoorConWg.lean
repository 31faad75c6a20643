/- A hierarchy and a slice that grows, behind what was there. -/
import Derived.Test.YtncmgiddcefpcaaDoorConQ
import Derived.Test.YtncmgiddcefpcaaDoorEvM4
namespace Go.Proofs.YtncmgiddcefpcaaDoor
open Go Go.Ev Go.Con
set_option linter.unusedSimpArgs false
set_option linter.unusedVariables false
set_option maxRecDepth 100000
structure WG (h3 : Hp) (F2 : Nat → Prop) (h : Hp) (F G : Nat → Prop) (T : Hi) (bt : Nat) (v : Value) (e n : Nat) (cs : List Value) : Prop where
  t : TreeAt h F T bt
  g : Gr G h v e n cs
  u : Upd h3 F2 h fun k => F k ∨ G k
  dj : ∀ k, F k → ¬ G k
section
variable {h3 h h' : Hp} {F2 F F' G G' : Nat → Prop} {T T' : Hi} {bt : Nat} {v v' : Value} {e n : Nat} {cs cs' : List Value}
theorem TreeAt.ltF (t : TreeAt h F T bt) {k : Nat} (hk : F k) : k < h.next := by obtain ⟨_, _, _, _, t⟩ := t; exact t.lt k hk
theorem WG.keeps (x : WG h3 F2 h F G T bt v e n cs) (k : Keep h h') : WG h3 F2 h' F G T bt v e n cs :=
  ⟨x.t.keeps k, x.g.keeps k, ⟨Nat.le_trans x.u.next k.1, fun j h1 h2 => (k.2 j (Nat.lt_of_lt_of_le h1 x.u.next)).trans (x.u.same j h1 h2), x.u.own⟩, x.dj⟩
theorem WG.tree (x : WG h3 F2 h F G T bt v e n cs) (u : Upd h F h' F') (t : TreeAt h' F' T' bt) : WG h3 F2 h' F' G T' bt v e n cs := by
  refine ⟨t, x.g.keep u.next fun k hk => u.same k (x.g.lt hk) fun hf => x.dj k hf hk, ⟨Nat.le_trans x.u.next u.next, fun j h1 h2 => ?_, fun k hk => ?_⟩, fun k hf hg => ?_⟩
  · rw [u.same j (Nat.lt_of_lt_of_le h1 x.u.next) fun hf => ?_]
    · exact x.u.same j h1 h2
    · rcases x.u.own j (.inl hf) with h3 | h3
      · exact h2 h3
      · omega
  · rcases hk with hk | hk
    · rcases u.own k hk with h1 | h1
      · exact x.u.own k (.inl h1)
      · exact .inr (Nat.le_trans x.u.next h1)
    · exact x.u.own k (.inr hk)
  · rcases u.own k hf with h1 | h1
    · exact x.dj k h1 hg
    · have := x.g.lt hg; omega
theorem WG.app (x : WG h3 F2 h F G T bt v e n cs) (g : Gr (fun k => G k ∨ k = h.next) h' v' e n cs') (hn : h'.next = h.next + 1) (hs : ∀ c, c < h.next → ¬ G c → h'.get c = h.get c) : WG h3 F2 h' F (fun k => G k ∨ k = h.next) T bt v' e n cs' := by
  refine ⟨x.t.keep (by omega) fun k hk => hs k (x.t.ltF hk) (x.dj k hk), g, ⟨by have := x.u.next; omega, fun j h1 h2 => ?_, fun k hk => ?_⟩, fun k hf hg => ?_⟩
  · rw [hs j (Nat.lt_of_lt_of_le h1 x.u.next) fun hg => ?_]
    · exact x.u.same j h1 h2
    · rcases x.u.own j (.inr hg) with h3 | h3
      · exact h2 h3
      · omega
  · rcases hk with hk | hk | rfl
    · exact x.u.own k (.inl hk)
    · exact x.u.own k (.inr hk)
    · exact .inr x.u.next
  · rcases hg with hg | rfl
    · exact x.dj k hf hg
    · have := x.t.ltF hf; omega
end
end Go.Proofs.YtncmgiddcefpcaaDoor
