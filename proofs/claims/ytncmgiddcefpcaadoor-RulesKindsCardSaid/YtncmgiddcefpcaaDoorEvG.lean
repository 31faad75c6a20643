/- Operations that write. -/
import Derived.Test.YtncmgiddcefpcaaDoorEvF
namespace Go.Ev
open Go
set_option linter.unusedSimpArgs false
set_option linter.unusedVariables false

theorem setRow_other (w : World) (g : Nat) (cs : Array Value) (k : Nat) (h : k ≠ g) : (w.setRow g cs).heap[k]? = w.heap[k]? := by
  simp only [World.setRow, Array.getElem?_modify]
  rw [if_neg (by omega)]
theorem setRow_size (w : World) (g : Nat) (cs : Array Value) : (w.setRow g cs).heap.size = w.heap.size := by simp [World.setRow]

theorem writeAt_cells {h h' : Hp} {b o : Nat} {vs : List Value} (e : writeAt h b o vs = some h') : vs.all isCell = true := by
  unfold writeAt at e
  split at e
  · rename_i cs el base olds _
    cases hd : (decide (o + vs.length ≤ cs.length) && vs.all isCell) with
    | true => simp only [Bool.and_eq_true] at hd; exact hd.2
    | false => rw [hd] at e; simp at e
  · cases e
theorem kill_next : ∀ (l : List Nat) (h : Hp), (kill h l).next = h.next
  | [], _ => rfl
  | b :: l, h => by
    simp only [kill]
    rw [kill_next l]
    unfold kill1
    split <;> rfl
/-- What is killed of an object. -/
def deadOf : Option Ob → Option Ob
  | some (.row cs e _) => some (.row cs e .dead)
  | o => o
theorem deadOf_deadOf (o : Option Ob) : deadOf (deadOf o) = deadOf o := by
  cases o with
  | none => rfl
  | some o => cases o <;> rfl
theorem kill_get : ∀ (l : List Nat) (h : Hp) (x : Nat), (kill h l).get x = if x ∈ l then deadOf (h.get x) else h.get x
  | [], _, _ => by simp [kill]
  | b :: l, h, x => by
    simp only [kill]
    rw [kill_get l]
    have key : ∀ y, (kill1 h b).get y = if y = b then deadOf (h.get b) else h.get y := by
      intro y
      unfold kill1
      split
      · rename_i cs e st hg
        rw [Hp.get_set]
        split
        · rw [hg]; rfl
        · rfl
      · rename_i hg
        split
        · rename_i hy; subst hy
          cases ho : h.get y with
          | none => rfl
          | some o => cases o with
            | row cs e st => exact absurd ho (hg _ _ _)
            | map es ck => rfl
        · rfl
    rw [key]
    by_cases h1 : x = b
    · subst h1
      simp [deadOf_deadOf]
    · simp [h1]

theorem liveO_dead {o : Option Ob} (h : liveO (deadOf o)) : liveO o := by
  cases o with
  | none => exact h
  | some o => cases o with
    | row cs e st => simp [deadOf, liveO] at h
    | map es ck => exact h
theorem inertO_dead {o : Option Ob} (h : inertO o) : inertO (deadOf o) := by
  cases o with
  | none => exact h
  | some o => cases o with
    | row cs e st => simp [deadOf, inertO]
    | map es ck => exact h
theorem live_row {h : Hp} {b : Nat} {cs : List Value} {e : TypeId} {base : Nat} {olds : List Nat} (g : h.get b = some (.row cs e (.rw base olds))) : live h b := by simp [live, liveO, g]
theorem live_map {h : Hp} {b : Nat} {es : List MapEntry} {ck : Nat} (g : h.get b = some (.map es ck)) : live h b := by simp [live, liveO, g]
theorem not_inert {h : Hp} {b : Nat} (hl : live h b) : ¬ inert h b := by
  unfold live inert at *
  generalize h.get b = o at *
  intro hi
  cases o with
  | none => exact hl
  | some o => cases o with
    | row cs e st => cases st <;> simp [liveO, inertO] at *
    | map es ck => simp [inertO] at hi
theorem not_elder {h : Hp} {a b : Nat} (hl : live h b) : ¬ Elder h a b := by
  rintro ⟨_, _, _, _, _, _, _, _, h3, _⟩
  simp [live, liveO, h3] at hl

/-- Two live blocks lie apart. -/
theorem Rep.live_apart {P : Program} {m : Mp} {h : Hp} {w : World} (r : Rep P m h w) {a b : Nat} {La Lb : Loc} (ha : live h a) (hb : live h b) (hma : m a = some La) (hmb : m b = some Lb) (hab : a ≠ b) : La.blk ≠ Lb.blk := fun he => by
  rcases r.sep a b La Lb ha hab hma hmb he with h1 | h1
  · exact not_inert hb h1
  · exact not_elder hb h1

theorem take_splice {cs : List Value} {cs' : List Value} {vs : List Value} {o : Nat} (h1 : o + vs.length ≤ cs.length) (h2 : cs.length ≤ cs'.length) :
    (splice cs' o vs).take cs.length = splice (cs'.take cs.length) o vs := by
  unfold splice
  apply List.ext_getElem?
  intro i
  by_cases hi : i < cs.length
  · simp only [List.getElem?_take, if_pos hi, List.getElem?_append, List.length_append, List.length_take, List.getElem?_drop]
    have e1 : min o cs'.length = o := by omega
    have e2 : min o (min cs.length cs'.length) = o := by omega
    simp only [e1, e2]
    by_cases g1 : i < o
    · simp [g1, show i < o + vs.length by omega]
    · by_cases g2 : i < o + vs.length
      · simp [g1, g2]
      · simp [g2, show o + vs.length + (i - (o + vs.length)) < cs.length by omega]
  · rw [List.getElem?_eq_none (by simp; omega), List.getElem?_eq_none (by simp; omega)]
theorem take_splice_low {cs' vs : List Value} {o k : Nat} (h1 : k ≤ o) (h2 : o ≤ cs'.length) : (splice cs' o vs).take k = cs'.take k := by
  unfold splice
  rw [List.append_assoc, List.take_append_of_le_length (by simp; omega), List.take_take, Nat.min_eq_left h1]
theorem length_splice {cs vs : List Value} {o : Nat} (h : o + vs.length ≤ cs.length) : (splice cs o vs).length = cs.length := by
  unfold splice; simp; omega

theorem writeAt_sound {P : Program} {m : Mp} {h h' : Hp} {w : World} (r : Rep P m h w) {b o : Nat} {vs vs' : List Value} (e : writeAt h b o vs = some h') (hv : VL m vs vs') {L : Loc} (hL : m b = some L) :
    ∃ w', (storeCells ⟨L.blk, o, none⟩ vs' 0).run P w = .ok () w' ∧ Rep P m h' w' ∧ Step m h w m h' w' := by
  unfold writeAt at e
  split at e
  · rename_i cs el base olds hg
    cases hd : (decide (o + vs.length ≤ cs.length) && vs.all isCell) with
    | false => rw [hd] at e; simp at e
    | true =>
      rw [hd] at e
      simp only [cond_true] at e
      simp only [Bool.and_eq_true, decide_eq_true_eq] at hd
      obtain ⟨L2, cs', n, k1, k2, k3, k4⟩ := r.rw b cs el base olds hg
      have : L2 = L := by rw [hL] at k1; exact (Option.some.inj k1).symm
      subst this
      obtain ⟨L3, cs3, fz, l1, l2, l3⟩ := r.row b cs el _ hg trivial
      have : L3 = L2 := by rw [hL] at l1; exact (Option.some.inj l1).symm
      subst this
      have : cs3 = cs' := by rw [k2] at l2; cases l2; rfl
      subst this
      have hvl := hv.length
      have hle : cs.length ≤ cs3.toList.length := by
        have := l3.length; simp at this; simp; omega
      have hcell : ∀ v ∈ vs', v.oneCell' = true := by
        intro v hv2
        obtain ⟨i, hi⟩ := List.mem_iff_getElem?.1 hv2
        have hi' : i < vs.length := by have := (List.getElem?_eq_some_iff.1 hi).1; omega
        obtain ⟨a', h1, h2⟩ := hv.getElem? i (List.getElem?_eq_getElem hi')
        rw [hi] at h1; cases h1
        have hc := (List.all_eq_true.1 hd.2) _ (List.getElem_mem hi')
        replace hc := h2.isCell hc
        cases v <;> simp [isCell] at hc <;> rfl
      have hrun := run_storeCells_at (P := P) L3.blk o el vs' 0 cs3 w k2 (by simp at hle; omega) hcell
      have hsp : (cs3.toList.take (o + 0) ++ vs' ++ cs3.toList.drop (o + 0 + vs'.length)) = splice cs3.toList o vs' := rfl
      rw [hsp] at hrun
      generalize hw' : w.setRow L3.blk (splice cs3.toList o vs').toArray = w' at hrun
      have hnew : w'.heap[L3.blk]? = some (.cells (splice cs3.toList o vs').toArray el (0, 0)) := by rw [← hw']; exact setRow_heap w _ _ _ _ _ k2
      have hoth : ∀ k, k ≠ L3.blk → w'.heap[k]? = w.heap[k]? := fun k hk => by rw [← hw']; exact setRow_other w _ _ k hk
      have hsz : w'.heap.size = w.heap.size := by rw [← hw']; exact setRow_size w _ _
      have hos : w'.os = w.os ∧ w'.tape = w.tape ∧ w'.output = w.output := by rw [← hw']; exact ⟨rfl, rfl, rfl⟩
      have hlb := live_row hg
      -- the shape of the new heap
      obtain ⟨base', olds', kl, hh', hkl⟩ : ∃ base' olds' kl, h' = (kill h kl).set b (.row (splice cs o vs) el (.rw base' olds')) ∧
          ((base ≤ o ∧ kl = [] ∧ base' = base ∧ olds' = olds) ∨ (kl = olds ∧ base' = 0 ∧ olds' = [])) := by
        cases hbo : decide (base ≤ o) with
        | true => rw [hbo] at e; simp at e; exact ⟨base, olds, [], e.symm, .inl ⟨of_decide_eq_true hbo, rfl, rfl, rfl⟩⟩
        | false => rw [hbo] at e; simp at e; exact ⟨0, [], olds, e.symm, .inr ⟨rfl, rfl, rfl⟩⟩
      have hget : ∀ x, x ≠ b → h'.get x = if x ∈ kl then deadOf (h.get x) else h.get x := fun x hx => by rw [hh', Hp.get_set, if_neg hx, kill_get]
      have hgetb : h'.get b = some (.row (splice cs o vs) el (.rw base' olds')) := by rw [hh', Hp.get_set, if_pos rfl]
      have hlive : ∀ x, live h' x → live h x := fun x hx => by
        by_cases hxb : x = b
        · subst hxb; exact hlb
        · unfold live at hx ⊢
          rw [hget x hxb] at hx
          split at hx
          · exact liveO_dead hx
          · exact hx
      have hinert : ∀ x, x ≠ b → inert h x → inert h' x := fun x hxb hx => by
        unfold inert at hx ⊢
        rw [hget x hxb]
        split
        · exact inertO_dead hx
        · exact hx
      -- a block beside b that shares its true block: it is dead behind the write, or lies below what is written
      have hside : ∀ x cs2 e2 st2, x ≠ b → h'.get x = some (.row cs2 e2 st2) → notDead st2 → ∀ L2, m x = some L2 → L2.blk = L3.blk → cs2.length ≤ o ∧ base ≤ o := by
        intro x cs2 e2 st2 hxb hgx hnd L2 hm2 he2
        rcases r.sep b x L3 L2 hlb (Ne.symm hxb) hL hm2 he2.symm with h1 | ⟨cs5, e5, base5, olds5, cs6, e6, h1, h2, h3, h4⟩
        · exfalso
          have := hinert x hxb h1
          unfold inert at this
          rw [hgx] at this
          cases st2 <;> simp [notDead, inertO] at *
        · rw [hg] at h1; cases h1
          rcases hkl with ⟨hbo, rfl, _, _⟩ | ⟨rfl, _, _⟩
          · rw [hget x hxb, if_neg (by simp), h3] at hgx
            cases hgx
            exact ⟨by omega, hbo⟩
          · exfalso
            rw [hget x hxb, if_pos h2, h3] at hgx
            simp [deadOf] at hgx
            obtain ⟨_, _, rfl⟩ := hgx
            exact hnd
      refine ⟨w', hrun, ⟨fun x Lx hx => by rw [hsz]; exact r.rng x Lx hx, fun x hx => ?_, fun x cs2 e2 st2 hgx hnd => ?_, fun x cs2 e2 b2 o2 hgx => ?_, fun x es ck hgx => ?_, fun x y Lx Ly hlx hxy hmx hmy he => ?_⟩,
        ⟨Mp.le_refl m, by rw [hh', Hp.next_set, kill_next]; exact Nat.le_refl _, by rw [hsz]; exact Nat.le_refl _, fun c hc hn => hoth c fun h0 => hn b L3 hlb hL h0.symm, fun x Lx hlx hmx hc => ⟨x, Lx, hlive x hlx, hmx, rfl⟩, fun x Lx hmx _ => ⟨x, Lx, hmx, rfl⟩, hos.1, hos.2.1, hos.2.2⟩⟩
      · rw [hh', Hp.next_set, kill_next] at hx
        have hxb : x ≠ b := fun h0 => by subst h0; have := (r.frs x hx).1; rw [hg] at this; cases this
        obtain ⟨h1, h2⟩ := r.frs x hx
        refine ⟨?_, h2⟩
        rw [hget x hxb, h1]; simp [deadOf]
      · by_cases hxb : x = b
        · subst hxb
          rw [hgetb] at hgx; cases hgx
          refine ⟨L3, _, _, hL, hnew, ?_⟩
          rw [length_splice (by omega), List.toList_toArray, take_splice (by omega) hle]
          exact l3.splice hv o
        · obtain ⟨st0, hg0, hnd0⟩ : ∃ st0, h.get x = some (.row cs2 e2 st0) ∧ notDead st0 := by
            rw [hget x hxb] at hgx
            split at hgx
            · cases hgx0 : h.get x with
              | none => rw [hgx0] at hgx; simp [deadOf] at hgx
              | some ob => cases ob with
                | row c0 e0 s0 => rw [hgx0] at hgx; simp [deadOf] at hgx; obtain ⟨_, _, rfl⟩ := hgx; exact absurd hnd (by simp [notDead])
                | map _ _ => rw [hgx0] at hgx; simp [deadOf] at hgx
            · exact ⟨st2, hgx, hnd⟩
          obtain ⟨L4, cs4, fz4, g1, g2, g3⟩ := r.row x cs2 e2 st0 hg0 hnd0
          by_cases hblk : L4.blk = L3.blk
          · obtain ⟨ho1, ho2⟩ := hside x cs2 e2 st2 hxb hgx hnd L4 g1 hblk
            rw [hblk, k2] at g2
            cases g2
            refine ⟨L4, (splice cs3.toList o vs').toArray, (0, 0), g1, by rw [hblk]; exact hnew, ?_⟩
            rw [List.toList_toArray, take_splice_low ho1 (by omega)]
            exact g3
          · exact ⟨L4, cs4, fz4, g1, by rw [hoth _ hblk]; exact g2, g3⟩
      · by_cases hxb : x = b
        · subst hxb
          rw [hgetb] at hgx; cases hgx
          refine ⟨L3, _, n, hL, hnew, k3, ?_⟩
          rw [length_splice (by omega), List.size_toArray, length_splice (by simp at hle; simp; omega)]
          simpa using k4
        · have hg0 : h.get x = some (.row cs2 e2 (.rw b2 o2)) := by
            rw [hget x hxb] at hgx
            split at hgx
            · cases hgx0 : h.get x with
              | none => rw [hgx0] at hgx; simp [deadOf] at hgx
              | some ob => cases ob with
                | row c0 e0 s0 => rw [hgx0] at hgx; simp [deadOf] at hgx
                | map _ _ => rw [hgx0] at hgx; simp [deadOf] at hgx
            · exact hgx
          obtain ⟨L4, cs4, n4, g1, g2, g3, g4⟩ := r.rw x cs2 e2 b2 o2 hg0
          have hblk := r.live_apart (live_row hg0) hlb g1 hL hxb
          exact ⟨L4, cs4, n4, g1, by rw [hoth _ hblk]; exact g2, g3, g4⟩
      · have hxb : x ≠ b := fun h0 => by subst h0; rw [hgetb] at hgx; cases hgx
        have hg0 : h.get x = some (.map es ck) := by
          rw [hget x hxb] at hgx
          split at hgx
          · cases hgx0 : h.get x with
            | none => rw [hgx0] at hgx; simp [deadOf] at hgx
            | some ob => cases ob with
              | row c0 e0 s0 => rw [hgx0] at hgx; simp [deadOf] at hgx
              | map _ _ => rw [hgx0] at hgx; simpa [deadOf] using hgx
          · exact hgx
        obtain ⟨L4, es4, g1, g2, g3⟩ := r.map x es ck hg0
        have hblk := r.live_apart (live_map hg0) hlb g1 hL hxb
        exact ⟨L4, es4, g1, by rw [hoth _ hblk]; exact g2, g3⟩
      · rcases r.sep x y Lx Ly (hlive x hlx) hxy hmx hmy he with h1 | ⟨cs5, e5, base5, olds5, cs6, e6, h1, h2, h3, h4⟩
        · left
          exact hinert y (fun h0 => by subst h0; exact not_inert hlb h1) h1
        · have hyb : y ≠ b := fun h0 => by subst h0; rw [hg] at h3; cases h3
          by_cases hyk : y ∈ kl
          · left
            unfold inert; rw [hget y hyb, if_pos hyk, h3]; simp [deadOf, inertO]
          · right
            have hy : h'.get y = some (.row cs6 e6 .ro) := by rw [hget y hyb, if_neg hyk]; exact h3
            by_cases hxb : x = b
            · subst hxb
              rw [hg] at h1; cases h1
              rcases hkl with ⟨hbo, rfl, rfl, rfl⟩ | ⟨rfl, rfl, rfl⟩
              · exact ⟨_, _, _, _, cs6, e6, hgetb, h2, hy, h4⟩
              · exact absurd h2 hyk
            · have hx : h'.get x = some (.row cs5 e5 (.rw base5 olds5)) := by
                rw [hget x hxb]
                split
                · rename_i hxk
                  exfalso
                  unfold live at hlx
                  rw [hget x hxb, if_pos hxk, h1] at hlx
                  simp [deadOf, liveO] at hlx
                · exact h1
              exact ⟨_, _, _, _, cs6, e6, hx, h2, hy, h4⟩
  · cases e

end Go.Ev
