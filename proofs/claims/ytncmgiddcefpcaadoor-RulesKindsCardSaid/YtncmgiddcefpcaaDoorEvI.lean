/- append and copy; all that write. -/
import Derived.Test.YtncmgiddcefpcaaDoorEvH
namespace Go.Ev
open Go
set_option linter.unusedSimpArgs false
set_option linter.unusedVariables false

theorem tBytes_spec {P : Program} {t n : Nat} (h : tBytes P t = some n) : ∃ ti, P.info? t = some ti ∧ ti.bytes = n := by
  unfold tBytes at h
  rw [Option.map_eq_some_iff] at h
  exact h

theorem lenOf_string {v : Value} {k : Nat} {s : ByteArray} (h : lenOf v = some k) (e : v = .string s) : k = s.size := by subst e; simp [lenOf] at h; exact h.symm

theorem zeroCells_size (z : Array Value) (n : Nat) : (Builtin.zeroCells z n).size = n * z.size := by simp [Builtin.zeroCells]

/-- A block that is written no more. -/
theorem Rep.sealed {P : Program} {m : Mp} {h : Hp} {w : World} (r : Rep P m h w) {b : Nat} {cs : List Value} {el : TypeId} {bs : Nat} {olds : List Nat} (hg : h.get b = some (.row cs el (.rw bs olds))) :
    Rep P m (h.set b (.row cs el .ro)) w ∧ Step m h w m (h.set b (.row cs el .ro)) w := by
  have hlb := live_row hg
  have hget : ∀ x, x ≠ b → (h.set b (.row cs el .ro)).get x = h.get x := fun x hx => by rw [Hp.get_set, if_neg hx]
  have hgetb : (h.set b (.row cs el .ro)).get b = some (.row cs el .ro) := by rw [Hp.get_set, if_pos rfl]
  have hlive : ∀ x, live (h.set b (.row cs el .ro)) x → live h x ∧ x ≠ b := fun x hx => by
    unfold live at hx
    by_cases hxb : x = b
    · subst hxb; rw [hgetb] at hx; simp [liveO] at hx
    · rw [hget x hxb] at hx; exact ⟨hx, hxb⟩
  refine ⟨⟨r.rng, fun x hx => ?_, fun x cs2 e2 st2 hgx hnd => ?_, fun x cs2 e2 b2 o2 hgx => ?_, fun x es ck hgx => ?_, fun x y Lx Ly hlx hxy hmx hmy he => ?_⟩,
    ⟨Mp.le_refl m, Nat.le_refl _, Nat.le_refl _, fun _ _ _ => rfl, fun x Lx hlx hmx hc => ⟨x, Lx, (hlive x hlx).1, hmx, rfl⟩, fun x Lx hmx _ => ⟨x, Lx, hmx, rfl⟩, rfl, rfl, rfl⟩⟩
  · rw [Hp.next_set] at hx
    have hxb : x ≠ b := fun h0 => by subst h0; have := (r.frs x hx).1; rw [hg] at this; cases this
    rw [hget x hxb]; exact r.frs x hx
  · by_cases hxb : x = b
    · subst hxb; rw [hgetb] at hgx; cases hgx; exact r.row x cs el _ hg trivial
    · rw [hget x hxb] at hgx; exact r.row x cs2 e2 st2 hgx hnd
  · have hxb : x ≠ b := fun h0 => by subst h0; rw [hgetb] at hgx; cases hgx
    rw [hget x hxb] at hgx; exact r.rw x cs2 e2 b2 o2 hgx
  · have hxb : x ≠ b := fun h0 => by subst h0; rw [hgetb] at hgx; cases hgx
    rw [hget x hxb] at hgx; exact r.map x es ck hgx
  · obtain ⟨hlx', hxb⟩ := hlive x hlx
    rcases r.sep x y Lx Ly hlx' hxy hmx hmy he with h1 | ⟨cs5, e5, base5, olds5, cs6, e6, h1, h2, h3, h4⟩
    · have hyb : y ≠ b := fun h0 => by subst h0; exact not_inert hlb h1
      left; unfold inert at *; rw [hget y hyb]; exact h1
    · have hyb : y ≠ b := fun h0 => by subst h0; rw [hg] at h3; cases h3
      exact .inr ⟨_, _, _, _, cs6, e6, by rw [hget x hxb]; exact h1, h2, by rw [hget y hyb]; exact h3, h4⟩

theorem firstCells_zero {P : Program} {x' : Value} {n : Nat} {w : World} (hlen : (Builtin.lenOf x').run P w = .ok 0 w) : (Builtin.firstCells n 0 x').run P w = .ok #[] w := by
  cases x' with
  | slice a l c => cases a with
    | none => simp [Builtin.firstCells]
    | some a => simp [Builtin.firstCells]; rfl
  | string st => simp [Builtin.firstCells]
  | _ => simp [Builtin.lenOf] at hlen

theorem evAppend_sound {P : Program} {m : Mp} {h h' : Hp} {w : World} (r : Rep P m h w) {t u : TypeId} {s s' x x' v : Value} (e : evAppend P t s x h = some (v, h')) (hs : VRel m s s') (hx : VRel m x x')
    (ts : Array TypeId) (ht : ts[0]? = some t) (hu : ts[1]? = some u) {ud : TypeDesc} (hud : P.underlying u = some ud) (hni : (∃ e, ud = .slice e) ∨ ud = .string) (ty : TypeId) :
    ∃ v' m' w', (Builtin.append_ ts ty #[s', x']).run P w = .ok v' w' ∧ Rep P m' h' w' ∧ Step m h w m' h' w' ∧ VRel m' v v' := by
  unfold evAppend at e
  split at e
  · rename_i base len cap
    simp only [Option.bind_eq_some_iff] at e
    obtain ⟨el, hel, n, hn, by_, hb, z, hz, k, hk, e⟩ := e
    cases hzz : ((z.cells.size == n) && flat z) with
    | false => rw [hzz] at e; simp at e
    | true =>
      rw [hzz] at e
      simp only [Bool.not_true, cond_false] at e
      simp only [Bool.and_eq_true, beq_iff_eq] at hzz
      obtain ⟨hzn, hzf⟩ := hzz
      have hlen := lenOf_sound (P := P) hk hx
      obtain ⟨ti, hti, rfl⟩ := tBytes_spec hb
      have T : AppT P ts t u el n ud ti z := ⟨ht, hu, tSliceElem_spec hel, hud, hni, hn, hti, hz⟩
      obtain ⟨a', cap', rfl, hcap, hlc, hkind⟩ : ∃ a' cap', s' = .slice a' len cap' ∧ cap / 2 ≤ cap' ∧ len ≤ cap / 2 ∧
          ((base = none ∧ a' = none ∧ len = 0 ∧ cap = 0 ∧ cap' = 0) ∨
            ∃ b o L c', base = some ⟨b, o, none⟩ ∧ a' = some c' ∧ m b = some L ∧ cap' = cap / 2 + (cap % 2) * L.extra ∧ (c' = ⟨L.blk, o, none⟩ ∨ cap' = 0)) := by
        cases hs with
        | nils => exact ⟨none, 0, rfl, by omega, by omega, .inl ⟨rfl, rfl, rfl, rfl, rfl⟩⟩
        | slc hL hl hc ha => exact ⟨_, _, rfl, by omega, hl, .inr ⟨_, _, _, _, rfl, rfl, hL, hc, ha⟩⟩
      cases hk0 : (k == 0) with
      | true =>
        rw [hk0] at e; simp only [cond_true, Option.some.injEq, Prod.mk.injEq] at e
        obtain ⟨rfl, rfl⟩ := e
        have hk0' : k = 0 := beq_iff_eq.1 hk0
        subst hk0'
        refine ⟨.slice a' (len + 0) cap', m, w, run_append_in T ty (hlen w) (by omega) (firstCells_zero (hlen w)) ?_, r, Step.refl _ _ _, hs⟩
        cases a' <;> rfl
      | false =>
        rw [hk0] at e; simp only [cond_false, Option.bind_eq_some_iff] at e
        have hkpos : 0 < k := by
          have := beq_eq_false_iff_ne.1 hk0
          omega
        obtain ⟨new, hnew, e⟩ := e
        obtain ⟨new', hf1, hf2, hf3⟩ := evCells_sound r hnew hx (fun k' hk' => by rw [hk] at hk'; cases hk'; exact Nat.le_refl _)
        cases hchk : (!(new.all isCell) || !decide ((2 * (len + k) + 1024) * (ti.bytes + 1) ≤ 2 ^ 47) || !Nat.beq new.length (k * n)) with
        | true => rw [hchk] at e; simp at e
        | false =>
          rw [hchk] at e; simp only [cond_false] at e
          simp only [Bool.or_eq_false_iff, Bool.not_eq_false', decide_eq_true_eq] at hchk
          obtain ⟨⟨hcells, hbig⟩, hnl⟩ := hchk
          cases hroom : decide (len + k ≤ cap / 2) with
          | true =>
            rw [hroom] at e; simp only [cond_true] at e
            have hroom' := of_decide_eq_true hroom
            rcases hkind with ⟨_, _, rfl, rfl, _⟩ | ⟨b, o, L, c', rfl, rfl, hL, hc, hor⟩
            · omega
            · simp only [Option.map_eq_some_iff, Prod.mk.injEq] at e
              obtain ⟨h1, hw1, rfl, rfl⟩ := e
              have := hor.resolve_right (by omega)
              subst this
              obtain ⟨w', g1, g2, g3⟩ := writeAt_sound r hw1 hf2 hL
              refine ⟨.slice (some ⟨L.blk, o, none⟩) (len + k) cap', m, w', run_append_in T ty (hlen w) (by omega) hf1 ?_, g2, g3, .slc hL hroom' hc (.inl rfl)⟩
              show (storeCells (Addr.add ⟨L.blk, o, none⟩ (len * n)) _).run P w = _
              rw [Addr_add0 ⟨L.blk, o, none⟩ rfl]
              exact g1
          | false =>
            rw [hroom] at e; simp only [cond_false] at e
            have hroom' := of_decide_eq_false hroom
            have hnewlen : new.length = k * n := Nat.eq_of_beq_eq_true hnl
            -- a new row on the true side
            have hrealloc : cap' < len + k → ∀ old, evCells n len (.slice base len cap) h = some old → old.length = len * n →
                ∃ nc old' new2, len + k ≤ nc ∧ (Builtin.append_ ts ty #[.slice a' len cap', x']).run P w =
                  .ok (.slice (some ⟨w.heap.size, 0, none⟩) (len + k) nc) { w with drawn := w.drawn + 1, heap := w.heap.push (.cells (old' ++ new2 ++ Builtin.zeroCells z.cells (nc - (len + k))) el (0, 0)) } ∧
                  VL m (old ++ new) ((old' ++ new2 ++ Builtin.zeroCells z.cells (nc - (len + k))).toList.take (old ++ new).length) ∧
                  (old' ++ new2 ++ Builtin.zeroCells z.cells (nc - (len + k))).size = (old ++ new).length + (nc - (len + k)) * n := by
              intro hgt old hold holdlen
              obtain ⟨old', ho1, ho2, _⟩ := evCells_sound r.drew hold hs (fun k' hk' => by simp [lenOf] at hk'; omega)
              obtain ⟨new2, hn1, hn2, _⟩ := evCells_sound r.drew hnew hx (fun k' hk' => by rw [hk] at hk'; cases hk'; exact Nat.le_refl _)
              obtain ⟨nc, hnc, hrun⟩ := run_append_new T ty (hlen w) hgt hbig ho1 hn1
              refine ⟨nc, old', new2, hnc, hrun, ?_, ?_⟩
              · have hl1 := ho2.length
                have hl2 := hn2.length
                simp only [Array.length_toList] at hl1 hl2
                simp only [Array.toList_append, List.length_append]
                rw [List.take_append_of_le_length (by simp; omega), List.take_of_length_le (by simp; omega)]
                exact ho2.append hn2
              · have hl1 := ho2.length
                have hl2 := hn2.length
                simp only [Array.length_toList] at hl1 hl2
                simp only [Array.size_append, zeroCells_size, hzn, List.length_append]
                omega
            cases hpar : (cap % 2 == 0) with
            | true =>
              rw [hpar] at e; simp only [cond_true, Option.map_eq_some_iff, Prod.mk.injEq] at e
              obtain ⟨old, hold, rfl, rfl⟩ := e
              have hpar' : cap % 2 = 0 := beq_iff_eq.1 hpar
              have hceq : cap' = cap / 2 := by
                rcases hkind with ⟨_, _, _, rfl, rfl⟩ | ⟨b, o, L, c', _, _, _, hc, _⟩
                · rfl
                · rw [hpar'] at hc; simpa using hc
              have holdlen : old.length = len * n := evCells_size hold (fun s hs => by cases hs) (fun l c hlc => by
                cases hlc
                rcases hkind with ⟨_, _, h1, _, _⟩ | ⟨b, o, L, c', h1, _⟩
                · exact h1
                · cases h1)
              obtain ⟨nc, old', new2, hnc, hrun, hvl, hsz⟩ := hrealloc (by omega) old hold holdlen
              have hp := Rep.push r.drew (w := { w with drawn := w.drawn + 1 }) rfl (ob := .row (old ++ new) el (.rw 0 [])) (x := nc - (len + k)) (.inl ⟨_, _, _, n, 0, [], rfl, rfl, hvl, .inl hn, hsz⟩)
              have hst := Step.push (w := { w with drawn := w.drawn + 1 }) r.drew (.row (old ++ new) el (.rw 0 [])) (.cells (old' ++ new2 ++ Builtin.zeroCells z.cells (nc - (len + k))) el (0, 0)) (nc - (len + k))
              refine ⟨_, _, _, hrun, hp, (Step.drew m h w).trans hst, .slc (Mp.upd_self _ _ _) (by omega) ?_ (.inl rfl)⟩
              rw [show (2 * (len + k) + 1) / 2 = len + k by omega, show (2 * (len + k) + 1) % 2 = 1 by omega]
              simp; omega
            | false =>
              rw [hpar] at e; simp only [cond_false] at e
              have hpar' : cap % 2 = 1 := by have := beq_eq_false_iff_ne.1 hpar; omega
              split at e
              · rename_i b
                split at e
                · rename_i cs el2 bs olds hg
                  cases hcc : ((len * n == cs.length) && cap / 2 == len && Nat.beq el2 el && decide (bs ≤ cs.length)) with
                  | false => rw [hcc] at e; simp at e
                  | true =>
                    rw [hcc] at e; simp only [cond_true, Option.some.injEq, Prod.mk.injEq] at e
                    obtain ⟨rfl, rfl⟩ := e
                    simp only [Bool.and_eq_true, beq_iff_eq, decide_eq_true_eq] at hcc
                    obtain ⟨⟨⟨c1, c2⟩, c3⟩, c4⟩ := hcc
                    have c3' : el2 = el := Nat.eq_of_beq_eq_true c3
                    subst c3'
                    rcases hkind with ⟨h1, _⟩ | ⟨b0, o, L, c', h1, rfl, hL, hc, hor⟩
                    · cases h1
                    · cases h1
                      rw [hpar', Nat.one_mul, c2] at hc
                      by_cases hfit : len + k ≤ cap'
                      · have := hor.resolve_right (by omega)
                        subst this
                        obtain ⟨w', g1, g2, g3⟩ := r.grow hg c4 hL hf2 hcells hn hnewlen (by omega)
                        refine ⟨.slice (some ⟨L.blk, 0, none⟩) (len + k) cap', _, w', run_append_in T ty (hlen w) hfit hf1 ?_, g2, g3, .slc (Mp.upd_self _ _ _) (by omega) ?_ (.inl rfl)⟩
                        · show (storeCells (Addr.add ⟨L.blk, 0, none⟩ (len * n)) _).run P w = _
                          rw [Addr_add0 ⟨L.blk, 0, none⟩ rfl, c1]
                          simp only [Nat.zero_add]
                          exact g1
                        · rw [show (2 * (len + k) + 1) / 2 = len + k by omega, show (2 * (len + k) + 1) % 2 = 1 by omega]
                          simp; omega
                      · have hold : evCells n len (.slice (some ⟨b, 0, none⟩) len cap) h = some cs := by
                          unfold evCells
                          simp only
                          cases hz0 : len * n == 0 with
                          | true => have := beq_iff_eq.1 hz0; simp; cases cs with | nil => rfl | cons => simp at c1; omega
                          | false => simp [rowOf, hg, ← c1]; rw [c1]; simp
                        obtain ⟨nc, old', new2, hnc, hrun, hvl, hsz⟩ := hrealloc (by omega) cs hold (by omega)
                        obtain ⟨s1, s2⟩ := r.drew.sealed hg
                        have hp := Rep.push s1 (w := { w with drawn := w.drawn + 1 }) rfl (ob := .row (cs ++ new) el2 (.rw cs.length (b :: olds))) (x := nc - (len + k)) (.inl ⟨_, _, _, n, _, _, rfl, rfl, hvl, .inl hn, hsz⟩)
                        have hst := Step.push (w := { w with drawn := w.drawn + 1 }) s1 (.row (cs ++ new) el2 (.rw cs.length (b :: olds))) (.cells (old' ++ new2 ++ Builtin.zeroCells z.cells (nc - (len + k))) el2 (0, 0)) (nc - (len + k))
                        refine ⟨_, _, _, hrun, hp, ((Step.drew m h w).trans s2).trans hst, .slc (Mp.upd_self _ _ _) (by omega) ?_ (.inl rfl)⟩
                        rw [show (2 * (len + k) + 1) / 2 = len + k by omega, show (2 * (len + k) + 1) % 2 = 1 by omega]
                        simp; omega
                · cases e
              · cases e
  · cases e

end Go.Ev
