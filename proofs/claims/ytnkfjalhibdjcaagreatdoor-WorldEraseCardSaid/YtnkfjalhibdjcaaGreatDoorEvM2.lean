/- Texts joined: what the claim needs of them. No condition. -/
import Derived.Test.YtnkfjalhibdjcaaGreatDoorEvM1
import Derived.LoopN
import Derived.Orders
import Derived.Lib.Split
import Derived.Lib.Join
import Derived.Below
import Derived.HandedShaped
import Derived.Shelf.Vars
import Derived.JoinedOf
namespace Go.Ev
open Go
set_option linter.unusedSimpArgs false
set_option linter.unusedVariables false
theorem tBytes_spec {P : Program} {t n : Nat} (h : tBytes P t = some n) : ∃ ti, P.info? t = some ti ∧ ti.bytes = n := by
  unfold tBytes at h
  rw [Option.map_eq_some_iff] at h
  exact h
theorem zeroCells_size (z : Array Value) (n : Nat) : (Builtin.zeroCells z n).size = n * z.size := by simp [Builtin.zeroCells]
theorem Rep.sealed {P : Program} {m : Mp} {h : Hp} {w : World} (r : Rep P m h w) {b : Nat} {cs : List Value} {el : TypeId} {bs : Nat} {olds : List Nat} (hg : h.get b = some (.row cs el (.rw bs olds))) :
    Rep P m (h.set b (.row cs el .ro)) w ∧ Step m h w m (h.set b (.row cs el .ro)) w := by
  have hlb := live_row hg
  have hget : ∀ x, x ≠ b → (h.set b (.row cs el .ro)).get x = h.get x := fun x hx => by rw [Hp.get_set, if_neg hx]
  have hgetb : (h.set b (.row cs el .ro)).get b = some (.row cs el .ro) := by rw [Hp.get_set, if_pos rfl]
  have hlive : ∀ x, live (h.set b (.row cs el .ro)) x → live h x ∧ x ≠ b := fun x hx => by
    unfold live at hx
    by_cases hxb : x = b
    · subst hxb; rw [hgetb] at hx; simp [liveO] at hx
    · rw [hget x hxb] at hx; exact ⟨hx, hxb⟩
  refine ⟨⟨r.rng, fun x hx => ?_, fun x cs2 e2 st2 hgx hnd => ?_, fun x cs2 e2 b2 o2 hgx => ?_, fun x es ck hgx => ?_, fun x y Lx Ly hlx hxy hmx hmy he => ?_⟩,
    ⟨Mp.le_refl m, Nat.le_refl _, Nat.le_refl _, fun _ _ _ => rfl, fun x Lx hlx hmx hc => ⟨x, Lx, (hlive x hlx).1, hmx, rfl⟩, fun x Lx hmx _ => ⟨x, Lx, hmx, rfl⟩, rfl, rfl, rfl⟩⟩
  · rw [Hp.next_set] at hx
    have hxb : x ≠ b := fun h0 => by subst h0; have := (r.frs x hx).1; rw [hg] at this; cases this
    rw [hget x hxb]; exact r.frs x hx
  · by_cases hxb : x = b
    · subst hxb; rw [hgetb] at hgx; cases hgx; exact r.row x cs el _ hg trivial
    · rw [hget x hxb] at hgx; exact r.row x cs2 e2 st2 hgx hnd
  · have hxb : x ≠ b := fun h0 => by subst h0; rw [hgetb] at hgx; cases hgx
    rw [hget x hxb] at hgx; exact r.rw x cs2 e2 b2 o2 hgx
  · have hxb : x ≠ b := fun h0 => by subst h0; rw [hgetb] at hgx; cases hgx
    rw [hget x hxb] at hgx; exact r.map x es ck hgx
  · obtain ⟨hlx', hxb⟩ := hlive x hlx
    rcases r.sep x y Lx Ly hlx' hxy hmx hmy he with h1 | ⟨cs5, e5, base5, olds5, cs6, e6, h1, h2, h3, h4⟩
    · have hyb : y ≠ b := fun h0 => by subst h0; exact not_inert hlb h1
      left; unfold inert at *; rw [hget y hyb]; exact h1
    · have hyb : y ≠ b := fun h0 => by subst h0; rw [hg] at h3; cases h3
      exact .inr ⟨_, _, _, _, cs6, e6, by rw [hget x hxb]; exact h1, h2, by rw [hget y hyb]; exact h3, h4⟩
theorem firstCells_zero {P : Program} {x' : Value} {n : Nat} {w : World} (hlen : (Builtin.lenOf x').run P w = .ok 0 w) : (Builtin.firstCells n 0 x').run P w = .ok #[] w := by
  cases x' with
  | slice a l c => cases a with
    | none => simp [Builtin.firstCells]
    | some a => simp [Builtin.firstCells]; rfl
  | string st => simp [Builtin.firstCells]
  | _ => simp [Builtin.lenOf] at hlen
theorem evAppend_sound {P : Program} {m : Mp} {h h' : Hp} {w : World} (r : Rep P m h w) {t u : TypeId} {s s' x x' v : Value} (e : evAppend P t s x h = some (v, h')) (hs : VRel m s s') (hx : VRel m x x')
    (ts : Array TypeId) (ht : ts[0]? = some t) (hu : ts[1]? = some u) {ud : TypeDesc} (hud : P.underlying u = some ud) (hni : (∃ e, ud = .slice e) ∨ ud = .string) (ty : TypeId) :
    ∃ v' m' w', (Builtin.append_ ts ty #[s', x']).run P w = .ok v' w' ∧ Rep P m' h' w' ∧ Step m h w m' h' w' ∧ VRel m' v v' := by
  unfold evAppend at e
  split at e
  · rename_i base len cap
    simp only [Option.bind_eq_some_iff] at e
    obtain ⟨el, hel, n, hn, by_, hb, z, hz, k, hk, e⟩ := e
    cases hzz : ((z.cells.size == n) && flat z) with
    | false => rw [hzz] at e; simp at e
    | true =>
      rw [hzz] at e
      simp only [Bool.not_true, cond_false] at e
      simp only [Bool.and_eq_true, beq_iff_eq] at hzz
      obtain ⟨hzn, hzf⟩ := hzz
      have hlen := lenOf_sound (P := P) hk hx
      obtain ⟨ti, hti, rfl⟩ := tBytes_spec hb
      have T : AppT P ts t u el n ud ti z := ⟨ht, hu, tSliceElem_spec hel, hud, hni, hn, hti, hz⟩
      obtain ⟨a', cap', rfl, hcap, hlc, hkind⟩ : ∃ a' cap', s' = .slice a' len cap' ∧ cap / 2 ≤ cap' ∧ len ≤ cap / 2 ∧
          ((base = none ∧ a' = none ∧ len = 0 ∧ cap = 0 ∧ cap' = 0) ∨
            ∃ b o L c', base = some ⟨b, o, none⟩ ∧ a' = some c' ∧ m b = some L ∧ cap' = cap / 2 + (cap % 2) * L.extra ∧ (c' = ⟨L.blk, o, none⟩ ∨ cap' = 0)) := by
        cases hs with
        | nils => exact ⟨none, 0, rfl, by omega, by omega, .inl ⟨rfl, rfl, rfl, rfl, rfl⟩⟩
        | slc hL hl hc ha => exact ⟨_, _, rfl, by omega, hl, .inr ⟨_, _, _, _, rfl, rfl, hL, hc, ha⟩⟩
      cases hk0 : (k == 0) with
      | true =>
        rw [hk0] at e; simp only [cond_true, Option.some.injEq, Prod.mk.injEq] at e
        obtain ⟨rfl, rfl⟩ := e
        have hk0' : k = 0 := beq_iff_eq.1 hk0
        subst hk0'
        refine ⟨.slice a' (len + 0) cap', m, w, run_append_in T ty (hlen w) (by omega) (firstCells_zero (hlen w)) ?_, r, Step.refl _ _ _, hs⟩
        cases a' <;> rfl
      | false =>
        rw [hk0] at e; simp only [cond_false, Option.bind_eq_some_iff] at e
        have hkpos : 0 < k := by
          have := beq_eq_false_iff_ne.1 hk0
          omega
        obtain ⟨new, hnew, e⟩ := e
        obtain ⟨new', hf1, hf2, hf3⟩ := evCells_sound r hnew hx (fun k' hk' => by rw [hk] at hk'; cases hk'; exact Nat.le_refl _)
        cases hchk : (!(new.all isCell) || !decide ((2 * (len + k) + 1024) * (ti.bytes + 1) ≤ 2 ^ 47) || !Nat.beq new.length (k * n)) with
        | true => rw [hchk] at e; simp at e
        | false =>
          rw [hchk] at e; simp only [cond_false] at e
          simp only [Bool.or_eq_false_iff, Bool.not_eq_false', decide_eq_true_eq] at hchk
          obtain ⟨⟨hcells, hbig⟩, hnl⟩ := hchk
          cases hroom : decide (len + k ≤ cap / 2) with
          | true =>
            rw [hroom] at e; simp only [cond_true] at e
            have hroom' := of_decide_eq_true hroom
            rcases hkind with ⟨_, _, rfl, rfl, _⟩ | ⟨b, o, L, c', rfl, rfl, hL, hc, hor⟩
            · omega
            · simp only [Option.map_eq_some_iff, Prod.mk.injEq] at e
              obtain ⟨h1, hw1, rfl, rfl⟩ := e
              have := hor.resolve_right (by omega)
              subst this
              obtain ⟨w', g1, g2, g3⟩ := writeAt_sound r hw1 hf2 hL
              refine ⟨.slice (some ⟨L.blk, o, none⟩) (len + k) cap', m, w', run_append_in T ty (hlen w) (by omega) hf1 ?_, g2, g3, .slc hL hroom' hc (.inl rfl)⟩
              show (storeCells (Addr.add ⟨L.blk, o, none⟩ (len * n)) _).run P w = _
              rw [Addr_add0 ⟨L.blk, o, none⟩ rfl]
              exact g1
          | false =>
            rw [hroom] at e; simp only [cond_false] at e
            have hroom' := of_decide_eq_false hroom
            have hnewlen : new.length = k * n := Nat.eq_of_beq_eq_true hnl
            -- a new row on the true side
            have hrealloc : cap' < len + k → ∀ old, evCells n len (.slice base len cap) h = some old → old.length = len * n →
                ∃ nc old' new2, len + k ≤ nc ∧ (Builtin.append_ ts ty #[.slice a' len cap', x']).run P w =
                  .ok (.slice (some ⟨w.heap.size, 0, none⟩) (len + k) nc) { w with drawn := w.drawn + 1, heap := w.heap.push (.cells (old' ++ new2 ++ Builtin.zeroCells z.cells (nc - (len + k))) el (0, 0)) } ∧
                  VL m (old ++ new) ((old' ++ new2 ++ Builtin.zeroCells z.cells (nc - (len + k))).toList.take (old ++ new).length) ∧
                  (old' ++ new2 ++ Builtin.zeroCells z.cells (nc - (len + k))).size = (old ++ new).length + (nc - (len + k)) * n := by
              intro hgt old hold holdlen
              obtain ⟨old', ho1, ho2, _⟩ := evCells_sound r.drew hold hs (fun k' hk' => by simp [lenOf] at hk'; omega)
              obtain ⟨new2, hn1, hn2, _⟩ := evCells_sound r.drew hnew hx (fun k' hk' => by rw [hk] at hk'; cases hk'; exact Nat.le_refl _)
              obtain ⟨nc, hnc, hrun⟩ := run_append_new T ty (hlen w) hgt hbig ho1 hn1
              refine ⟨nc, old', new2, hnc, hrun, ?_, ?_⟩
              · have hl1 := ho2.length
                have hl2 := hn2.length
                simp only [Array.length_toList] at hl1 hl2
                simp only [Array.toList_append, List.length_append]
                rw [List.take_append_of_le_length (by simp; omega), List.take_of_length_le (by simp; omega)]
                exact ho2.append hn2
              · have hl1 := ho2.length
                have hl2 := hn2.length
                simp only [Array.length_toList] at hl1 hl2
                simp only [Array.size_append, zeroCells_size, hzn, List.length_append]
                omega
            cases hpar : (cap % 2 == 0) with
            | true =>
              rw [hpar] at e; simp only [cond_true, Option.map_eq_some_iff, Prod.mk.injEq] at e
              obtain ⟨old, hold, rfl, rfl⟩ := e
              have hpar' : cap % 2 = 0 := beq_iff_eq.1 hpar
              have hceq : cap' = cap / 2 := by
                rcases hkind with ⟨_, _, _, rfl, rfl⟩ | ⟨b, o, L, c', _, _, _, hc, _⟩
                · rfl
                · rw [hpar'] at hc; simpa using hc
              have holdlen : old.length = len * n := evCells_size hold (fun s hs => by cases hs) (fun l c hlc => by
                cases hlc
                rcases hkind with ⟨_, _, h1, _, _⟩ | ⟨b, o, L, c', h1, _⟩
                · exact h1
                · cases h1)
              obtain ⟨nc, old', new2, hnc, hrun, hvl, hsz⟩ := hrealloc (by omega) old hold holdlen
              have hp := Rep.push r.drew (w := { w with drawn := w.drawn + 1 }) rfl (ob := .row (old ++ new) el (.rw 0 [])) (x := nc - (len + k)) (.inl ⟨_, _, _, n, 0, [], rfl, rfl, hvl, .inl hn, hsz⟩)
              have hst := Step.push (w := { w with drawn := w.drawn + 1 }) r.drew (.row (old ++ new) el (.rw 0 [])) (.cells (old' ++ new2 ++ Builtin.zeroCells z.cells (nc - (len + k))) el (0, 0)) (nc - (len + k))
              refine ⟨_, _, _, hrun, hp, (Step.drew m h w).trans hst, .slc (Mp.upd_self _ _ _) (by omega) ?_ (.inl rfl)⟩
              rw [show (2 * (len + k) + 1) / 2 = len + k by omega, show (2 * (len + k) + 1) % 2 = 1 by omega]
              simp; omega
            | false =>
              rw [hpar] at e; simp only [cond_false] at e
              have hpar' : cap % 2 = 1 := by have := beq_eq_false_iff_ne.1 hpar; omega
              split at e
              · rename_i b
                split at e
                · rename_i cs el2 bs olds hg
                  cases hcc : ((len * n == cs.length) && cap / 2 == len && Nat.beq el2 el && decide (bs ≤ cs.length)) with
                  | false => rw [hcc] at e; simp at e
                  | true =>
                    rw [hcc] at e; simp only [cond_true, Option.some.injEq, Prod.mk.injEq] at e
                    obtain ⟨rfl, rfl⟩ := e
                    simp only [Bool.and_eq_true, beq_iff_eq, decide_eq_true_eq] at hcc
                    obtain ⟨⟨⟨c1, c2⟩, c3⟩, c4⟩ := hcc
                    have c3' : el2 = el := Nat.eq_of_beq_eq_true c3
                    subst c3'
                    rcases hkind with ⟨h1, _⟩ | ⟨b0, o, L, c', h1, rfl, hL, hc, hor⟩
                    · cases h1
                    · cases h1
                      rw [hpar', Nat.one_mul, c2] at hc
                      by_cases hfit : len + k ≤ cap'
                      · have := hor.resolve_right (by omega)
                        subst this
                        obtain ⟨w', g1, g2, g3⟩ := r.grow hg c4 hL hf2 hcells hn hnewlen (by omega)
                        refine ⟨.slice (some ⟨L.blk, 0, none⟩) (len + k) cap', _, w', run_append_in T ty (hlen w) hfit hf1 ?_, g2, g3, .slc (Mp.upd_self _ _ _) (by omega) ?_ (.inl rfl)⟩
                        · show (storeCells (Addr.add ⟨L.blk, 0, none⟩ (len * n)) _).run P w = _
                          rw [Addr_add0 ⟨L.blk, 0, none⟩ rfl, c1]
                          simp only [Nat.zero_add]
                          exact g1
                        · rw [show (2 * (len + k) + 1) / 2 = len + k by omega, show (2 * (len + k) + 1) % 2 = 1 by omega]
                          simp; omega
                      · have hold : evCells n len (.slice (some ⟨b, 0, none⟩) len cap) h = some cs := by
                          unfold evCells
                          simp only
                          cases hz0 : len * n == 0 with
                          | true => have := beq_iff_eq.1 hz0; simp; cases cs with | nil => rfl | cons => simp at c1; omega
                          | false => simp [rowOf, hg, ← c1]; rw [c1]; simp
                        obtain ⟨nc, old', new2, hnc, hrun, hvl, hsz⟩ := hrealloc (by omega) cs hold (by omega)
                        obtain ⟨s1, s2⟩ := r.drew.sealed hg
                        have hp := Rep.push s1 (w := { w with drawn := w.drawn + 1 }) rfl (ob := .row (cs ++ new) el2 (.rw cs.length (b :: olds))) (x := nc - (len + k)) (.inl ⟨_, _, _, n, _, _, rfl, rfl, hvl, .inl hn, hsz⟩)
                        have hst := Step.push (w := { w with drawn := w.drawn + 1 }) s1 (.row (cs ++ new) el2 (.rw cs.length (b :: olds))) (.cells (old' ++ new2 ++ Builtin.zeroCells z.cells (nc - (len + k))) el2 (0, 0)) (nc - (len + k))
                        refine ⟨_, _, _, hrun, hp, ((Step.drew m h w).trans s2).trans hst, .slc (Mp.upd_self _ _ _) (by omega) ?_ (.inl rfl)⟩
                        rw [show (2 * (len + k) + 1) / 2 = len + k by omega, show (2 * (len + k) + 1) % 2 = 1 by omega]
                        simp; omega
                · cases e
              · cases e
  · cases e
end Go.Ev
namespace Go.Ev
open Go
set_option linter.unusedSimpArgs false
set_option linter.unusedVariables false
theorem evCopy_sound {P : Program} {m : Mp} {h h' : Hp} {w : World} (r : Rep P m h w) {t : TypeId} {d d' s s' v : Value} (e : evCopy P t d s h = some (v, h')) (hd : VRel m d d') (hs : VRel m s s')
    (ts : Array TypeId) (ht : ts[0]? = some t) (ty : TypeId) :
    ∃ v' w', (Builtin.copy_ ts ty #[d', s']).run P w = .ok v' w' ∧ Rep P m h' w' ∧ Step m h w m h' w' ∧ VRel m v v' := by
  unfold evCopy at e
  split at e
  · rename_i base dl cap
    simp only [Option.bind_eq_some_iff] at e
    obtain ⟨el, hel, n, hn, sl, hsl, cs, hcs, e⟩ := e
    have hlen := lenOf_sound (P := P) hsl hs
    obtain ⟨cs', hf1, hf2, hf3⟩ := evCells_sound r hcs hs (fun k' hk' => by rw [hsl] at hk'; cases hk'; exact Nat.min_le_left _ _)
    split at e
    · simp only [Option.some.injEq, Prod.mk.injEq] at e
      obtain ⟨rfl, rfl⟩ := e
      cases hd with
      | nils =>
        refine ⟨_, w, ?_, r, Step.refl _ _ _, .int _ _⟩
        have hf1' : (Builtin.firstCells n 0 s').run P w = .ok cs' w := by simpa using hf1
        simp [hf1', Builtin.copy_, ht, run_underlying (tSliceElem_spec hel), hlen, run_sizeOf hn, goInt]
    · rename_i b o
      cases hd with
      | slc hL hl hc ha =>
        rename_i cap' L a
        cases hem : cs.isEmpty with
        | true =>
          rw [hem] at e; simp only [cond_true, Option.some.injEq, Prod.mk.injEq] at e
          obtain ⟨rfl, rfl⟩ := e
          have hcs0 : cs = [] := by simpa using hem
          subst hcs0
          have hc0 : cs' = #[] := by
            have := hf2.length
            simp at this
            exact Array.size_eq_zero_iff.1 this.symm
          subst hc0
          refine ⟨_, w, ?_, r, Step.refl _ _ _, .int _ _⟩
          simp [Builtin.copy_, ht, run_underlying (tSliceElem_spec hel), hlen, run_sizeOf hn, hf1, goInt, storeCells]
        | false =>
          rw [hem] at e; simp only [cond_false, Option.map_eq_some_iff, Prod.mk.injEq] at e
          obtain ⟨h1, hw1, rfl, rfl⟩ := e
          have hne : cap' ≠ 0 := by
            intro h0
            have h2 : dl = 0 := by omega
            subst h2
            have : cs = [] := by
              unfold evCells at hcs
              split at hcs
              · simp at hcs; exact hcs
              · simp at hcs; exact hcs
              · simp at hcs; exact hcs
              · cases hcs
            subst this
            simp at hem
          have ha' := ha.resolve_right hne
          subst ha'
          obtain ⟨w', g1, g2, g3⟩ := writeAt_sound r hw1 hf2 hL
          refine ⟨_, w', ?_, g2, g3, .int _ _⟩
          simp [Builtin.copy_, ht, run_underlying (tSliceElem_spec hel), hlen, run_sizeOf hn, hf1, goInt, g1]
    · cases e
  · cases e
def GoodF (P : Program) (g : FuncId) : Prop := ∃ fn, P.funcs[g]? = some fn ∧ (fn.name == "runtime.NumGoroutine") = false ∧ fn.body.isNone = false
abbrev Inv := Mp → Hp → World → Prop
def StepClosed (I : Inv) : Prop := ∀ m h w m' h' w', I m h w → Step m h w m' h' w' → I m' h' w'
def CallOK (P : Program) (I : Inv) (call : CallF) : Prop := ∀ g args h v h', call g args h = some (v, h') → GoodF P g ∧
  ∀ m w args', Rep P m h w → I m h w → VL m args args' → Calls P g args'.toArray w fun e w' => ∃ v' m', e = .returned v' ∧ Rep P m' h' w' ∧ Step m h w m' h' w' ∧ VRel m' v v'
theorem run_callFunc {P : Program} {g : FuncId} (hg : GoodF P g) (args : Array Value) (w : World) : (callFunc g args).run P w = .ok (.enter g args) w := by
  obtain ⟨fn, h1, h2, h3⟩ := hg
  simp only [callFunc, Sem.run_bind, run_program, Result.andThen_ok, h1, h2, h3]
  simp
theorem undef_rel (m : Mp) : VRel m undef undef := .tuple .nil
theorem wp_value {P : Program} {o : Oper} {a : Act} {w w' : World} {next : Act → World → Prop} {Q : Exit → Act → World → Prop} {v : Value} (h : (execOp a.eval o).run P w = .ok (.value v) w') (hn : next (a.put o.dst v) w') : o.wp P a w next Q := by
  unfold Oper.wp; rw [h]; exact hn
theorem wp_skip' {P : Program} {o : Oper} {a : Act} {w w' : World} {next : Act → World → Prop} {Q : Exit → Act → World → Prop} (h : (execOp a.eval o).run P w = .ok .skip w') (hn : next (a.put o.dst undef) w') : o.wp P a w next Q := by
  unfold Oper.wp; rw [h]; exact hn
theorem evEff_wp {P : Program} {I : Inv} {call : CallF} (hcall : CallOK P I call) {m : Mp} {nt : Nat} {fr : Fr} {a : Act} {h h' : Hp} {w : World} (r : Rep P m h w) (hi : I m h w) (hf : FrRel m nt fr a.tmps) {o : Oper} {v : Value}
    (e : evEff P call fr o h = some (v, h')) {next : Act → World → Prop} {Q : Exit → Act → World → Prop}
    (hn : ∀ v' m' w', Rep P m' h' w' → Step m h w m' h' w' → VRel m' v v' → next (a.put o.dst v') w') : o.wp P a w next Q := by
  unfold evEff at e
  split at e
  · rename_i t x y ho
    simp only [Option.bind_eq_some_iff, Option.map_eq_some_iff, Prod.mk.injEq] at e
    obtain ⟨x1, hx, y1, hy, h1, he, rfl, rfl⟩ := e
    obtain ⟨w', g1, g2, g3⟩ := evStore_sound r he (ev1_sound hf hx) (ev1_sound hf hy)
    exact wp_skip' (by simp [execOp, ho, g1]) (hn _ _ _ g2 g3 (undef_rel _))
  · rename_i t x y z ho
    simp only [Option.bind_eq_some_iff, Option.map_eq_some_iff, Prod.mk.injEq] at e
    obtain ⟨x1, hx, y1, hy, z1, hz, h1, he, rfl, rfl⟩ := e
    obtain ⟨w', g1, g2, g3⟩ := evMapUpdate_sound r he (ev1_sound hf hx) (ev1_sound hf hy) (ev1_sound hf hz)
    exact wp_skip' (by simp [execOp, ho, g1]) (hn _ _ _ g2 g3 (undef_rel _))
  · rename_i t x y z ho
    simp only [Option.bind_eq_some_iff, Option.map_eq_some_iff, Prod.mk.injEq] at e
    obtain ⟨x1, hx, y1, hy, z1, hz, h1, he, rfl, rfl⟩ := e
    obtain ⟨w', g1, g2, g3⟩ := evMapUpdate_sound r he (ev1_sound hf hx) (ev1_sound hf hy) (ev1_sound hf hz)
    exact wp_skip' (by simp [execOp, ho, g1]) (hn _ _ _ g2 g3 (undef_rel _))
  · rename_i c ho
    unfold evEffCall at e
    split at e
    · rename_i hc
      split at e
      · rename_i x y t ts hargs htys
        simp only [Option.bind_eq_some_iff, Option.map_eq_some_iff, Prod.mk.injEq] at e
        obtain ⟨x1, hx, y1, hy, h1, he, rfl, rfl⟩ := e
        have e1 : c.args.map a.eval = #[a.eval x, a.eval y] := toArray_map (l := [a.eval x, a.eval y]) (by simp [hargs])
        have e2 : c.argTypes[0]? = some t := by rw [← Array.getElem?_toList, htys]; rfl
        obtain ⟨w', g1, g2, g3⟩ := evDelete_sound r he (ev1_sound hf hx) (ev1_sound hf hy) c.argTypes e2 o.type
        refine wp_value (v := .tuple #[]) ?_ (hn _ _ _ g2 g3 (undef_rel _))
        rw [execOp_builtin _ _ _ _ ho hc, e1]
        simp [builtin, g1]
      · cases e
    · rename_i hc
      split at e
      · rename_i x y t u ts hargs htys
        simp only [Option.bind_eq_some_iff] at e
        obtain ⟨x1, hx, y1, hy, e⟩ := e
        have e1 : c.args.map a.eval = #[a.eval x, a.eval y] := toArray_map (l := [a.eval x, a.eval y]) (by simp [hargs])
        have e2 : c.argTypes[0]? = some t := by rw [← Array.getElem?_toList, htys]; rfl
        have e3 : c.argTypes[1]? = some u := by rw [← Array.getElem?_toList, htys]; rfl
        have key : ∀ ud, P.underlying u = some ud → ((∃ e, ud = .slice e) ∨ ud = .string) → evAppend P t x1 y1 h = some (v, h') → o.wp P a w next Q := by
          intro ud hud hni he
          obtain ⟨v', m', w', g1, g2, g3, g4⟩ := evAppend_sound r he (ev1_sound hf hx) (ev1_sound hf hy) c.argTypes e2 e3 hud hni o.type
          refine wp_value (v := v') ?_ (hn _ _ _ g2 g3 g4)
          rw [execOp_builtin _ _ _ _ ho hc, e1]
          simp [builtin, g1]
        split at e
        · rename_i el hu; exact key _ hu (.inl ⟨_, rfl⟩) e
        · rename_i hu; exact key _ hu (.inr rfl) e
        · cases e
      · cases e
    · rename_i hc
      split at e
      · rename_i x y t ts hargs htys
        simp only [Option.bind_eq_some_iff] at e
        obtain ⟨x1, hx, y1, hy, he⟩ := e
        have e1 : c.args.map a.eval = #[a.eval x, a.eval y] := toArray_map (l := [a.eval x, a.eval y]) (by simp [hargs])
        have e2 : c.argTypes[0]? = some t := by rw [← Array.getElem?_toList, htys]; rfl
        obtain ⟨v', w', g1, g2, g3, g4⟩ := evCopy_sound r he (ev1_sound hf hx) (ev1_sound hf hy) c.argTypes e2 o.type
        refine wp_value (v := v') ?_ (hn _ _ _ g2 g3 g4)
        rw [execOp_builtin _ _ _ _ ho hc, e1]
        simp [builtin, g1]
      · cases e
    · rename_i f hc
      simp only [Option.bind_eq_some_iff] at e
      obtain ⟨fv, hfv, e⟩ := e
      have hfr := ev1_sound hf hfv
      split at e
      · rename_i g first captured
        simp only [Option.bind_eq_some_iff] at e
        obtain ⟨vs, hvs, e⟩ := e
        generalize hef : a.eval f = fv' at hfr
        cases hfr with
        | func hff hcc =>
          rename_i first' captured'
          obtain ⟨hgood, hok⟩ := hcall _ _ _ _ _ e
          have hrun : (execOp a.eval o).run P w = .ok (.enter g (first' ++ c.args.map a.eval ++ captured')) w := by
            simp only [execOp, ho, resolve, hc, hef, Deferred.ofValue, Sem.run_bind, Sem.run_pure, Result.andThen_ok, invoke]
            exact run_callFunc hgood _ _
          unfold Oper.wp
          rw [hrun, Oper.upon_enter]
          have hvl : VL m (first.toList ++ vs ++ captured.toList) ((first' ++ c.args.map a.eval ++ captured').toList) := by
            simp only [Array.toList_append, Array.toList_map]
            exact (hff.append (evs_sound hf hvs)).append hcc
          have := hok m w _ r hi hvl
          simp only [Array.toArray_toList] at this
          refine this.mono fun e' w' ⟨v', m', he', g2, g3, g4⟩ => ?_
          subst he'
          exact hn _ _ _ g2 g3 g4
      · cases e
    · cases e
  · cases e
theorem ObRel.hob {P : Program} {m : Mp} {ob : Ob} {ob' : Obj} (h : ObRel m ob ob') : (∃ cs cs' e n base olds, ob = .row cs e (.rw base olds) ∧ ob' = .cells cs' e (0, 0) ∧ VL m cs (cs'.toList.take cs.length) ∧ (tSize P e = some n ∨ (0 : Nat) = 0) ∧ cs'.size = cs.length + 0 * n) ∨ (ob = .map [] 0 ∧ ob' = .map #[] 0) := by
  rcases h with ⟨cs, cs', e, rfl, rfl, hv⟩ | h
  · have := hv.length
    simp only [Array.length_toList] at this
    refine .inl ⟨cs, cs', e, 0, 0, [], rfl, rfl, ?_, .inr rfl, by omega⟩
    rw [List.take_of_length_le (by simp; omega)]
    exact hv
  · exact .inr h
theorem evOp_wp {P : Program} {I : Inv} {call : CallF} (hcall : CallOK P I call) {m : Mp} {nt : Nat} {fr : Fr} {a : Act} {h h' : Hp} {w : World} (r : Rep P m h w) (hi : I m h w) (hf : FrRel m nt fr a.tmps) {o : Oper} {v : Value}
    (e : evOp P call fr o h = some (v, h')) {next : Act → World → Prop} {Q : Exit → Act → World → Prop}
    (hn : ∀ v' m' w', Rep P m' h' w' → Step m h w m' h' w' → VRel m' v v' → next (a.put o.dst v') w') : o.wp P a w next Q := by
  unfold evOp at e
  split at e
  · simp only [Option.map_eq_some_iff, Prod.mk.injEq] at e
    obtain ⟨u, hu, rfl, rfl⟩ := e
    obtain ⟨v', h1, h2⟩ := evPure_sound hf hu
    exact wp_value (h1 w) (hn _ _ _ r (Step.refl _ _ _) h2)
  · simp only [Option.map_eq_some_iff, Prod.mk.injEq] at e
    obtain ⟨u, hu, rfl, rfl⟩ := e
    obtain ⟨v', h1, h2⟩ := evReadOrPure_sound r hf hu
    exact wp_value h1 (hn _ _ _ r (Step.refl _ _ _) h2)
  · simp only [Option.map_eq_some_iff, Prod.mk.injEq] at e
    obtain ⟨⟨ob, mk⟩, hu, rfl, rfl⟩ := e
    obtain ⟨ob', mk', h1, h2, h3⟩ := evNew_sound hf hu
    have hp := Rep.push r (w := w) rfl (ob := ob) (ob' := ob') (x := 0) h2.hob
    have hst := Step.push (w := w) r ob ob' 0
    exact wp_value (h1 w) (hn _ _ _ hp hst (h3 _ _ _ (Mp.upd_self _ _ _)))
  · exact evEff_wp hcall r hi hf e hn
end Go.Ev
namespace Go.Ev
open Go
set_option linter.unusedSimpArgs false
set_option linter.unusedVariables false
theorem evWanted_sound {m : Mp} {nt : Nat} {fr : Fr} {a : Act} (hf : FrRel m nt fr a.tmps) {ops : Array Oper} {o : Oper} {b : Bool} (e : evWanted ops fr o = some b) : Region.wanted o (yielded ops a.tmps) = b := by
  unfold evWanted at e
  unfold Region.wanted
  split at e
  · rename_i hg; rw [hg]; simpa using e
  · rename_i j want hg
    rw [hg]
    split at e
    · rename_i c hc
      rw [Option.bind_eq_some_iff] at hc
      obtain ⟨d, hd, hc⟩ := hc
      obtain ⟨v', h1, h2⟩ := hf.get d _ hc
      cases h2
      simp only [yielded, hd, Option.bind_some, h1]
      simp at e
      subst e
      rfl
    · rename_i c hc
      rw [Option.bind_eq_some_iff] at hc
      obtain ⟨d, hd, hc⟩ := hc
      obtain ⟨v', h1, h2⟩ := hf.get d _ hc
      cases h2
      simp only [yielded, hd, Option.bind_some, h1]
      simp at e
      subst e
      rfl
    · cases e
def PostOf (P : Program) (m : Mp) (h : Hp) (w : World) (nt : Nat) (a : Act) (fr' : Fr) (h' : Hp) (R : Act → World → Prop) : Prop :=
  ∀ a' m' w', FrRel m' nt fr' a'.tmps → a'.defers = a.defers → Rep P m' h' w' → Step m h w m' h' w' → R a' w'
theorem put_defers (a : Act) (d : Option Tmp) (v : Value) : (a.put d v).defers = a.defers := by cases d <;> rfl
theorem evOps_wp {P : Program} {I : Inv} (hI : StepClosed I) {call : CallF} (hcall : CallOK P I call) {ops : Array Oper} {nt : Nat} {Q : Exit → Act → World → Prop} {fr' : Fr} {h' : Hp} : ∀ (l : List Oper) (fr : Fr) (h : Hp) (m : Mp) (a : Act) (w : World),
    evOps P call ops l fr h = some (fr', h') → (∀ o ∈ l, ∀ d, o.dst = some d → d < nt) → FrRel m nt fr a.tmps → Rep P m h w → I m h w → PostOf P m h w nt a fr' h' (Q .normal) → wpList P ops Q l a w
  | [], fr, h, m, a, w, e, _, hf, r, hi, hq => by
    simp only [evOps, Option.some.injEq, Prod.mk.injEq] at e
    obtain ⟨rfl, rfl⟩ := e
    exact hq a m w hf rfl r (Step.refl _ _ _)
  | o :: l, fr, h, m, a, w, e, hd, hf, r, hi, hq => by
    simp only [evOps] at e
    unfold wpList
    have hdo : ∀ d, o.dst = some d → d < nt := hd o (by simp)
    have hdl : ∀ o' ∈ l, ∀ d, o'.dst = some d → d < nt := fun o' h' => hd o' (by simp [h'])
    split at e
    · rename_i hw
      rw [evWanted_sound hf hw]
      simp only [if_true]
      split at e
      · rename_i v h1 he
        refine .inl (evOp_wp hcall r hi hf he fun v' m' w' r' s' hv => ?_)
        refine evOps_wp hI hcall l _ h1 m' _ w' e hdl ((hf.mono s'.le).put hdo hv) r' (hI _ _ _ _ _ _ hi s') fun a' m2 w2 f2 d2 r2 s2 => ?_
        exact hq a' m2 w2 f2 (d2.trans (put_defers _ _ _)) r2 (s'.trans s2)
      · cases e
    · rename_i hw
      rw [evWanted_sound hf hw]
      simp only [Bool.false_eq_true, if_false]
      refine evOps_wp hI hcall l _ h m _ w e hdl (hf.put hdo (undef_rel m)) r hi fun a' m2 w2 f2 d2 r2 s2 => ?_
      exact hq a' m2 w2 f2 (d2.trans (put_defers _ _ _)) r2 s2
    · cases e
def DrawsOK (P : Program) (I : Inv) (draws : Nat → Array Oper → Fr → Hp → Option (Fr × Hp)) (reg : Array Oper → Bool → Bool) : Prop :=
  ∀ id ops fr h fr' h', draws id ops fr h = some (fr', h') → reg ops true = true → ∀ m nt a w, (∀ o ∈ ops.toList, ∀ d, o.dst = some d → d < nt) → FrRel m nt fr a.tmps → Rep P m h w → I m h w →
    ∀ Q, PostOf P m h w nt a fr' h' (Q .normal) → (Code.region id ops true).wp P Q a w
def exitOf : Ex → Exit
  | .norm => .normal
  | .exit id => .exit id
  | .ret => .ret
theorem evCode_wp {P : Program} {I : Inv} (hI : StepClosed I) {call : CallF} (hcall : CallOK P I call) {draws : Nat → Array Oper → Fr → Hp → Option (Fr × Hp)} {reg : Array Oper → Bool → Bool} (hdraws : DrawsOK P I draws reg) {fuel nt0 nt : Nat} (hnt : nt0 ≤ nt) : ∀ (c : Code) (fr : Fr) (h : Hp) (ex : Ex) (fr' : Fr) (h' : Hp),
    evCode P call draws fuel c fr h = some (ex, fr', h') → codeOk nt0 reg c = true → ∀ (m : Mp) (a : Act) (w : World), FrRel m nt fr a.tmps → Rep P m h w → I m h w → ∀ Q : Exit → Act → World → Prop, PostOf P m h w nt a fr' h' (Q (exitOf ex)) → c.wp P Q a w := by
  intro c
  induction c with
  | skip =>
    intro fr h ex fr' h' e _ m a w hf r hi Q hq
    simp only [evCode, Option.some.injEq, Prod.mk.injEq] at e
    obtain ⟨rfl, rfl, rfl⟩ := e
    exact wp_skip (hq a m w hf rfl r (Step.refl _ _ _))
  | region id ops draw =>
    intro fr h ex fr' h' e hok m a w hf r hi Q hq
    simp only [codeOk, Bool.and_eq_true, List.all_eq_true] at hok
    have hd : ∀ o ∈ ops.toList, ∀ d, o.dst = some d → d < nt := fun o ho d hd => by
      have := hok.1 o ho
      simp only [hd, decide_eq_true_eq] at this
      exact Nat.lt_of_lt_of_le this hnt
    simp only [evCode] at e
    cases draw with
    | true =>
      simp only [cond_true] at e
      split at e
      · rename_i fr1 h1 he
        simp only [Option.some.injEq, Prod.mk.injEq] at e
        obtain ⟨rfl, rfl, rfl⟩ := e
        exact hdraws id ops fr h fr1 h1 he hok.2 m nt a w hd hf r hi Q hq
      · cases e
    | false =>
      simp only [cond_false] at e
      split at e
      · rename_i fr1 h1 he
        simp only [Option.some.injEq, Prod.mk.injEq] at e
        obtain ⟨rfl, rfl, rfl⟩ := e
        exact wp_region_list (evOps_wp hI hcall ops.toList fr h m a w he hd hf r hi hq)
      · cases e
  | seq x y ihx ihy =>
    intro fr h ex fr' h' e hok m a w hf r hi Q hq
    simp only [codeOk, Bool.and_eq_true] at hok
    simp only [evCode] at e
    split at e
    · rename_i fr1 h1 he
      refine wp_seq (ihx fr h .norm fr1 h1 he hok.1 m a w hf r hi _ fun a1 m1 w1 f1 d1 r1 s1 => ?_)
      show Code.wp P y Q a1 w1
      refine ihy fr1 h1 ex fr' h' e hok.2 m1 a1 w1 f1 r1 (hI _ _ _ _ _ _ hi s1) Q fun a2 m2 w2 f2 d2 r2 s2 => ?_
      exact hq a2 m2 w2 f2 (d2.trans d1) r2 (s1.trans s2)
    · rename_i hne
      refine wp_seq (ihx fr h ex fr' h' e hok.1 m a w hf r hi _ fun a1 m1 w1 f1 d1 r1 s1 => ?_)
      cases ex with
      | norm => exact absurd e (hne _ _)
      | exit id => exact hq a1 m1 w1 f1 d1 r1 s1
      | ret => exact hq a1 m1 w1 f1 d1 r1 s1
  | cond c x y ihx ihy =>
    intro fr h ex fr' h' e hok m a w hf r hi Q hq
    simp only [codeOk, Bool.and_eq_true] at hok
    simp only [evCode] at e
    split at e
    · rename_i hc
      have hr := ev1_sound hf hc
      generalize he : a.eval c = c' at hr
      cases hr
      exact wp_cond_true he (ihx fr h ex fr' h' e hok.1 m a w hf r hi Q hq)
    · rename_i hc
      have hr := ev1_sound hf hc
      generalize he : a.eval c = c' at hr
      cases hr
      exact wp_cond_false he (ihy fr h ex fr' h' e hok.2 m a w hf r hi Q hq)
    · cases e
  | block id x ih =>
    intro fr h ex fr' h' e hok m a w hf r hi Q hq
    simp only [codeOk] at hok
    simp only [evCode] at e
    split at e
    · rename_i j fr1 h1 he
      cases hj : Nat.beq j id with
      | true =>
        rw [hj] at e; simp only [cond_true, Option.some.injEq, Prod.mk.injEq] at e
        obtain ⟨rfl, rfl, rfl⟩ := e
        have hj' := Nat.eq_of_beq_eq_true hj
        subst hj'
        refine wp_block (ih fr h _ fr1 h1 he hok m a w hf r hi _ fun a1 m1 w1 f1 d1 r1 s1 => ?_)
        simp only [exitOf, Exit.inBlock, if_true]
        exact hq a1 m1 w1 f1 d1 r1 s1
      | false =>
        rw [hj] at e; simp only [cond_false, Option.some.injEq, Prod.mk.injEq] at e
        obtain ⟨rfl, rfl, rfl⟩ := e
        have hj' : j ≠ id := fun h0 => by subst h0; simp at hj
        refine wp_block (ih fr h _ fr1 h1 he hok m a w hf r hi _ fun a1 m1 w1 f1 d1 r1 s1 => ?_)
        simp only [exitOf, Exit.inBlock, if_neg hj']
        exact hq a1 m1 w1 f1 d1 r1 s1
    · rename_i hne
      refine wp_block (ih fr h ex fr' h' e hok m a w hf r hi _ fun a1 m1 w1 f1 d1 r1 s1 => ?_)
      cases ex with
      | norm => exact hq a1 m1 w1 f1 d1 r1 s1
      | exit id => exact absurd e (hne _ _ _)
      | ret => exact hq a1 m1 w1 f1 d1 r1 s1
  | loop x ih =>
    intro fr h ex fr' h' e hok m a w hf r hi Q hq
    simp only [codeOk] at hok
    simp only [evCode] at e
    refine wp_loop_rounds fuel ?_
    have key : ∀ (n : Nat) (fr : Fr) (h : Hp) (m : Mp) (a : Act) (w : World), iter (evCode P call draws fuel x) n fr h = some (ex, fr', h') → FrRel m nt fr a.tmps → Rep P m h w → I m h w → PostOf P m h w nt a fr' h' (Q (exitOf ex)) → Code.rounds P x Q n a w := by
      intro n
      induction n with
      | zero => intro fr h m a w e; simp [iter] at e
      | succ n ihn =>
        intro fr h m a w e hf r hi hq
        simp only [iter] at e
        rw [rounds_succ]
        split at e
        · rename_i fr1 h1 he
          refine ih fr h .norm fr1 h1 he hok m a w hf r hi _ fun a1 m1 w1 f1 d1 r1 s1 => ?_
          show Code.rounds P x Q n a1 w1
          refine ihn fr1 h1 m1 a1 w1 e f1 r1 (hI _ _ _ _ _ _ hi s1) fun a2 m2 w2 f2 d2 r2 s2 => ?_
          exact hq a2 m2 w2 f2 (d2.trans d1) r2 (s1.trans s2)
        · rename_i hne
          refine ih fr h ex fr' h' e hok m a w hf r hi _ fun a1 m1 w1 f1 d1 r1 s1 => ?_
          cases ex with
          | norm => exact absurd e (hne _ _)
          | exit id => exact hq a1 m1 w1 f1 d1 r1 s1
          | ret => exact hq a1 m1 w1 f1 d1 r1 s1
    exact key fuel fr h m a w e hf r hi hq
  | exit id =>
    intro fr h ex fr' h' e _ m a w hf r hi Q hq
    simp only [evCode, Option.some.injEq, Prod.mk.injEq] at e
    obtain ⟨rfl, rfl, rfl⟩ := e
    exact wp_exit (hq a m w hf rfl r (Step.refl _ _ _))
  | ret =>
    intro fr h ex fr' h' e _ m a w hf r hi Q hq
    simp only [evCode, Option.some.injEq, Prod.mk.injEq] at e
    obtain ⟨rfl, rfl, rfl⟩ := e
    exact wp_ret (hq a m w hf rfl r (Step.refl _ _ _))
  | rangeFunc f ps as0 b _ _ => intro fr h ex fr' h' e; simp [evCode] at e
  | scope b _ => intro fr h ex fr' h' e; simp [evCode] at e
  | label l => intro fr h ex fr' h' e; simp [evCode] at e
  | goto l => intro fr h ex fr' h' e; simp [evCode] at e
  | refuse why => intro fr h ex fr' h' e; simp [evCode] at e
theorem evResult_sound {P : Program} {m : Mp} {nt : Nat} {fr : Fr} {a : Act} {h : Hp} {w : World} (r : Rep P m h w) (hf : FrRel m nt fr a.tmps) {x : ResultVar} {v : Value} (e : evResult P fr h x = some v) :
    ∃ v', ((match x with
      | .tmp t => pure (a.tmps.getD t undef)
      | .cell c t => do loadVar t (← asAddr (a.tmps.getD c undef))) : Sem Value).run P w = .ok v' w ∧ VRel m v v' := by
  unfold evResult at e
  cases x with
  | tmp t =>
    simp only at e ⊢
    exact ⟨_, rfl, ev1_sound (x := .tmp t) hf e⟩
  | cell c t =>
    simp only [Option.bind_eq_some_iff] at e ⊢
    obtain ⟨u, hu, e⟩ := e
    have hr := ev1_sound (x := .tmp c) hf hu
    obtain ⟨v', h1, h2⟩ := evLoad_sound r e hr
    refine ⟨v', ?_, h2⟩
    simp only [Act.eval] at h1 hr
    generalize a.tmps.getD c undef = cc at *
    unfold evLoad at e
    split at e
    · cases hr
      simpa [Instr.loadAt, Instr.sureAddr, asAddr] using h1
    · cases e
theorem evResults_sound {P : Program} {m : Mp} {nt : Nat} {fr : Fr} {a : Act} {h : Hp} {w : World} (r : Rep P m h w) (hf : FrRel m nt fr a.tmps) : ∀ {xs : List ResultVar} {vs : List Value}, evResults P fr h xs = some vs →
    ∃ vs', (xs.mapM (fun (x : ResultVar) => (match x with
      | .tmp t => pure (a.tmps.getD t undef)
      | .cell c t => do loadVar t (← asAddr (a.tmps.getD c undef)) : Sem Value))).run P w = .ok vs' w ∧ VL m vs vs'
  | [], vs, e => by simp [evResults] at e; subst e; exact ⟨[], by simp, .nil⟩
  | x :: xs, vs, e => by
    simp only [evResults, Option.bind_eq_some_iff, Option.some.injEq] at e
    obtain ⟨v, hv, us, hus, rfl⟩ := e
    obtain ⟨v', h1, h2⟩ := evResult_sound r hf hv
    obtain ⟨us', h3, h4⟩ := evResults_sound r hf hus
    refine ⟨v' :: us', ?_, .cons h2 h4⟩
    simp only [List.mapM_cons, Sem.run_bind, h1, h3, Result.andThen_ok, Sem.run_pure]
theorem results_sound {P : Program} {m : Mp} {nt : Nat} {fr : Fr} {a : Act} {h : Hp} {w : World} (r : Rep P m h w) (hf : FrRel m nt fr a.tmps) {fn : Func} {vs : List Value} (e : evResults P fr h fn.results.toList = some vs) :
    ∃ v', (results fn a.tmps).run P w = .ok v' w ∧ VRel m (tupled vs) v' := by
  obtain ⟨vs', h1, h2⟩ := evResults_sound r hf e
  refine ⟨if h : vs'.length = 1 then vs'[0] else .tuple vs'.toArray, ?_, ?_⟩
  · unfold results
    simp only [Sem.run_bind, Array.mapM_eq_mapM_toList, Sem.run_map]
    erw [h1]
    simp
  · cases h2 with
    | nil => exact .tuple .nil
    | cons hv ht => cases ht with
      | nil => exact hv
      | cons hv2 ht2 =>
        simp only [List.length_cons, tupled]
        rw [dif_neg (by omega)]
        exact .tuple (by simpa using VL.cons hv (VL.cons hv2 ht2))
structure CtxOK (C : Ctx) (I : Inv) (reg : Array Oper → Bool → Bool) : Prop where
  mask : ∀ f, C.mask.testBit f = true → ∃ fn c, C.P.funcs[f]? = some fn ∧ (fn.name == "runtime.NumGoroutine") = false ∧ fn.body = some c ∧ codeOk fn.ntmps reg c = true
  sums : ∀ f s, C.S f = some s → ∀ args h v h', s args h = some (v, h') → GoodF C.P f ∧ ∀ m w args', Rep C.P m h w → I m h w → VL m args args' →
    Calls C.P f args'.toArray w fun e w' => ∃ v' m', e = .returned v' ∧ Rep C.P m' h' w' ∧ Step m h w m' h' w' ∧ VRel m' v v'
theorem args_rel {m : Mp} {args args' : List Value} (h : VL m args args') (k : Nat) : FrRel m (args'.toArray ++ Array.replicate k undef).size (Tr.ofList args 0 .e) (args'.toArray ++ Array.replicate k undef) := by
  refine ⟨rfl, fun t v e => ?_⟩
  rw [Tr.get_ofList] at e
  simp only [Nat.zero_le, if_true, Nat.sub_zero, Tr.get_e] at e
  split at e
  · rename_i u hu
    simp at e; subst e
    obtain ⟨v', h1, h2⟩ := h.getElem? t hu
    refine ⟨v', ?_, h2⟩
    have := (List.getElem?_eq_some_iff.1 h1).1
    rw [Array.getElem?_append_left (by simpa using this)]
    simpa using h1
  · cases e
theorem evCall_ok {C : Ctx} {I : Inv} (hI : StepClosed I) {reg : Array Oper → Bool → Bool} (hC : CtxOK C I reg) (hdraws : ∀ call, CallOK C.P I call → DrawsOK C.P I (evDraw C.P call) reg) : ∀ n, CallOK C.P I (evCall C n)
  | 0 => by intro g args h v h' e; simp [evCall] at e
  | n + 1 => by
    intro g args h v h' e
    have ih := evCall_ok hI hC hdraws n
    simp only [evCall] at e
    split at e
    · rename_i s hs
      exact hC.sums g s hs args h v h' e
    · cases hm : C.mask.testBit g with
      | false => rw [hm] at e; simp at e
      | true =>
        rw [hm] at e
        obtain ⟨fn, c, h1, h2, h3, h4⟩ := hC.mask g hm
        simp only [Bool.not_true, cond_false, h1, h3] at e
        refine ⟨⟨fn, h1, h2, by rw [h3]; rfl⟩, fun m w args' r hi hv => ?_⟩
        have key : ∀ ex fr1 h1', evCode C.P (evCall C n) (evDraw C.P (evCall C n)) n c (Tr.ofList args 0 .e) h = some (ex, fr1, h1') → (ex = .norm ∨ ex = .ret) → (evResults C.P fr1 h1' fn.results.toList).map (fun vs => (tupled vs, h1')) = some (v, h') →
            Calls C.P g args'.toArray w fun e w' => ∃ v' m', e = .returned v' ∧ Rep C.P m' h' w' ∧ Step m h w m' h' w' ∧ VRel m' v v' := by
          intro ex fr1 h1' hc hex he
          simp only [Option.map_eq_some_iff, Prod.mk.injEq] at he
          obtain ⟨vs, hvs, rfl, rfl⟩ := he
          refine calls_of_wp h1 h3 ?_
          have hf := args_rel hv (fn.ntmps - args'.toArray.size)
          refine evCode_wp hI ih (hdraws _ ih) (by simp; omega) c _ _ ex fr1 h1' hc h4 m { tmps := args'.toArray ++ Array.replicate (fn.ntmps - args'.toArray.size) undef, defers := [] } w hf r hi _ fun a1 m1 w1 f1 d1 r1 s1 => ?_
          obtain ⟨v', k1, k2⟩ := results_sound r1 f1 hvs
          have : bodyPost C.P fn (fun e w' => ∃ v' m', e = .returned v' ∧ Rep C.P m' h1' w' ∧ Step m h w m' h1' w' ∧ VRel m' (tupled vs) v') .ret a1 w1 := ⟨d1, v', k1, v', m1, rfl, r1, s1, k2⟩
          rcases hex with rfl | rfl <;> exact this
        split at e
        · rename_i fr1 h1' hc; exact key _ _ _ hc (.inl rfl) e
        · rename_i fr1 h1' hc; exact key _ _ _ hc (.inr rfl) e
        · cases e
end Go.Ev
namespace Go.Ev
open Go
set_option linter.unusedSimpArgs false
set_option linter.unusedVariables false
theorem evs_congr {g fr : Fr} : ∀ {l : List Operand}, (∀ x ∈ l, ev1 g x = ev1 fr x) → evs g l = evs fr l
  | [], _ => rfl
  | x :: l, h => by simp only [evs, h x (by simp), evs_congr (l := l) fun y hy => h y (by simp [hy])]
theorem evParts_congr {g fr : Fr} : ∀ {l : List (Nat × Operand)}, (∀ x ∈ l, ev1 g x.2 = ev1 fr x.2) → evParts g l = evParts fr l
  | [], _ => rfl
  | (i, x) :: l, h => by
    have h0 := h (i, x) (by simp)
    simp only at h0
    simp only [evParts, h0, evParts_congr (l := l) fun y hy => h y (by simp [hy])]
theorem opt_congr {g fr : Fr} {x : Option Operand} (h : ∀ y, x = some y → ev1 g y = ev1 fr y) : evPure.opt g x = evPure.opt fr x := by
  cases x with
  | none => rfl
  | some y => simp only [evPure.opt, h y rfl]
theorem evOp_congr {P : Program} {call : CallF} {g fr : Fr} {o : Oper} (H : ∀ x ∈ o.op.operands, ev1 g x = ev1 fr x) :
    evPure P g o = evPure P fr o ∧ (∀ h, evRead P g o h = evRead P fr o h) ∧ evNew P g o = evNew P fr o ∧ ∀ h, evEff P call g o h = evEff P call fr o h := by
  obtain ⟨dst, op, ty, pos, after, guard⟩ := o
  cases op with
  | call c =>
    obtain ⟨callee, args, ts⟩ := c
    have hargs : evs g args.toList = evs fr args.toList := evs_congr fun x hx => H x (by simp [Op.operands, Call.operands]; right; simpa using hx)
    have hl : ∀ x ∈ args.toList, ev1 g x = ev1 fr x := fun x hx => H x (by simp [Op.operands, Call.operands]; right; simpa using hx)
    have hc : ∀ f, callee = .value f → ev1 g f = ev1 fr f := fun f hf => H f (by subst hf; simp [Op.operands, Call.operands])
    refine ⟨?_, fun h => ?_, rfl, fun h => ?_⟩
    · simp only [evPure, evPureCall]
      split
      · split
        · rename_i x t ts' ha _; rw [hl x (by rw [ha]; simp)]
        · rfl
      · rw [hargs]
      · rw [hargs]
      · rfl
    · simp only [evRead, evReadCall]
      split
      · split
        · rename_i x t ts' ha _; rw [hl x (by rw [ha]; simp)]
        · rfl
      · rfl
    · simp only [evEff, evEffCall]
      split
      · split
        · rename_i x y t ts' ha _; rw [hl x (by rw [ha]; simp), hl y (by rw [ha]; simp)]
        · rfl
      · split
        · rename_i x y t u ts' ha _; rw [hl x (by rw [ha]; simp), hl y (by rw [ha]; simp)]
        · rfl
      · split
        · rename_i x y t ts' ha _; rw [hl x (by rw [ha]; simp), hl y (by rw [ha]; simp)]
        · rfl
      · rename_i f; rw [hc f rfl, hargs]
      · rfl
  | build t parts =>
    have : evParts g parts.toList = evParts fr parts.toList := evParts_congr fun x hx => H x.2 (by simp [Op.operands]; exact ⟨x.1, by simpa using hx⟩)
    exact ⟨by simp only [evPure, this], fun h => rfl, rfl, fun h => rfl⟩
  | buildSlice t n parts =>
    have : evParts g parts.toList = evParts fr parts.toList := evParts_congr fun x hx => H x.2 (by simp [Op.operands]; exact ⟨x.1, by simpa using hx⟩)
    exact ⟨rfl, fun h => rfl, by simp only [evNew, this], fun h => rfl⟩
  | makeFunc f first captured =>
    have h1 : evs g first.toList = evs fr first.toList := evs_congr fun x hx => H x (by simp [Op.operands]; left; simpa using hx)
    have h2 : evs g captured.toList = evs fr captured.toList := evs_congr fun x hx => H x (by simp [Op.operands]; right; simpa using hx)
    refine ⟨?_, fun h => rfl, rfl, fun h => rfl⟩
    cases f <;> simp only [evPure, h1, h2]
  | slice t x lo hi mx =>
    have h0 := H x (by simp [Op.operands])
    have h1 := opt_congr (g := g) (fr := fr) (x := lo) fun y hy => H y (by subst hy; simp [Op.operands])
    have h2 := opt_congr (g := g) (fr := fr) (x := hi) fun y hy => H y (by subst hy; simp [Op.operands])
    have h3 := opt_congr (g := g) (fr := fr) (x := mx) fun y hy => H y (by subst hy; simp [Op.operands])
    exact ⟨by simp only [evPure, h0, h1, h2, h3], fun h => rfl, rfl, fun h => rfl⟩
  | makeMap t r => exact ⟨rfl, fun h => rfl, rfl, fun h => rfl⟩
  | select cs b => exact ⟨rfl, fun h => rfl, rfl, fun h => rfl⟩
  | go c => exact ⟨rfl, fun h => rfl, rfl, fun h => rfl⟩
  | defer c => exact ⟨rfl, fun h => rfl, rfl, fun h => rfl⟩
  | _ =>
    simp [Op.operands] at H
    refine ⟨?_, fun h => ?_, ?_, fun h => ?_⟩ <;> first
      | rfl
      | (simp only [evPure, H]; done)
      | (simp only [evRead, H]; done)
      | (simp only [evNew, H]; done)
      | (simp only [evEff, H]; done)
theorem all2_sound {f : Value → Value → Bool} : ∀ {l k : List Value}, (∀ a b, f a b = true → a = b) → veqF.all2 f l k = true → l = k
  | [], [], _, _ => rfl
  | a :: l, b :: k, hf, h => by
    simp only [veqF.all2, Bool.and_eq_true] at h
    rw [hf a b h.1, all2_sound hf h.2]
  | [], _ :: _, _, h => by simp [veqF.all2] at h
  | _ :: _, [], _, h => by simp [veqF.all2] at h
theorem veqF_sound : ∀ (n : Nat) (a b : Value), veqF n a b = true → a = b := by
  intro n
  induction n with
  | zero =>
    intro a b h
    cases a <;> cases b <;> simp [veqF] at h <;> first
      | rfl
      | (subst h; rfl)
      | (obtain ⟨rfl, rfl⟩ := h; rfl)
      | (obtain ⟨⟨rfl, rfl⟩, rfl⟩ := h; rfl)
      | (obtain ⟨⟨rfl, h2⟩, h3⟩ := h; rw [h2, h3])
      | (rename_i s t; cases s; cases t; simp at h; congr 1; exact congrArg _ (Array.toList_inj.1 (by simpa using h)))
      | skip
  | succ n ih =>
    intro a b h
    cases a <;> cases b <;> simp [veqF] at h <;> first
      | rfl
      | (subst h; rfl)
      | (obtain ⟨rfl, rfl⟩ := h; rfl)
      | (obtain ⟨⟨rfl, rfl⟩, rfl⟩ := h; rfl)
      | (obtain ⟨rfl, h2⟩ := h; rw [ih _ _ h2])
      | (rw [Array.toList_inj.1 (all2_sound ih h)])
      | exact congrArg Value.string (ByteArray.ext h)
      | (obtain ⟨⟨rfl, h2⟩, h3⟩ := h; rw [Array.toList_inj.1 (all2_sound ih h2), Array.toList_inj.1 (all2_sound ih h3)])
      | skip
end Go.Ev
namespace Go.Ev
open Go
set_option linter.unusedSimpArgs false
set_option linter.unusedVariables false
def maskOf (acc : Array Nat) (o : Oper) : Nat := o.after.foldl (fun s e => if Region.binds .any e then s ||| 2 ^ e.on ||| acc.getD e.on 0 else s) 0
theorem maskOf_bit (acc : Array Nat) (o : Oper) (i : Nat) (h : (maskOf acc o).testBit i = true) : ∃ e ∈ o.after, Region.binds .any e = true ∧ (i = e.on ∨ (acc.getD e.on 0).testBit i = true) := by
  unfold maskOf at h
  rw [← Array.foldl_toList] at h
  have key : ∀ (l : List Edge) (s : Nat), (l.foldl (fun s e => if Region.binds .any e then s ||| 2 ^ e.on ||| acc.getD e.on 0 else s) s).testBit i = true → s.testBit i = true ∨ ∃ e ∈ l, Region.binds .any e = true ∧ (i = e.on ∨ (acc.getD e.on 0).testBit i = true) := by
    intro l
    induction l with
    | nil => intro s h; exact .inl h
    | cons e l ih =>
      intro s h
      simp only [List.foldl_cons] at h
      rcases ih _ h with h1 | ⟨e', h1, h2⟩
      · cases hb : Region.binds .any e with
        | false => rw [hb] at h1; simp at h1; exact .inl h1
        | true =>
          rw [hb] at h1
          simp only [if_true, Nat.testBit_or, Bool.or_eq_true] at h1
          rcases h1 with (h1 | h1) | h1
          · exact .inl h1
          · refine .inr ⟨e, by simp, hb, .inl ?_⟩
            rw [Nat.testBit_two_pow] at h1
            simp at h1; exact h1.symm
          · exact .inr ⟨e, by simp, hb, .inr h1⟩
      · exact .inr ⟨e', by simp [h1], h2⟩
  rcases key _ _ h with h1 | ⟨e, h1, h2⟩
  · simp at h1
  · exact ⟨e, by simpa using h1, h2⟩
theorem before_go : ∀ (l : List Oper) (acc : Array Nat), (l.foldl (fun acc o => acc.push (maskOf acc o)) acc).size = acc.size + l.length ∧
    (∀ j, j < acc.size → (l.foldl (fun acc o => acc.push (maskOf acc o)) acc)[j]? = acc[j]?) ∧
    ∀ (k : Nat) (o : Oper), l[k]? = some o → ∃ acc' : Array Nat, acc'.size = acc.size + k ∧ (∀ j, j < acc'.size → (l.foldl (fun acc o => acc.push (maskOf acc o)) acc)[j]? = acc'[j]?) ∧ (l.foldl (fun acc o => acc.push (maskOf acc o)) acc)[acc.size + k]? = some (maskOf acc' o)
  | [], acc => ⟨by simp, fun _ _ => rfl, fun k o h => by simp at h⟩
  | x :: l, acc => by
    obtain ⟨h1, h2, h3⟩ := before_go l (acc.push (maskOf acc x))
    simp only [List.foldl_cons, Array.size_push] at h1 h2 h3 ⊢
    refine ⟨by rw [h1]; simp; omega, fun j hj => ?_, fun k o ho => ?_⟩
    · rw [h2 j (by omega), Array.getElem?_push, if_neg (by omega)]
    · cases k with
      | zero =>
        simp at ho; subst ho
        refine ⟨acc, rfl, fun j hj => ?_, ?_⟩
        · rw [h2 j (by omega), Array.getElem?_push, if_neg (by omega)]
        · rw [Nat.add_zero, h2 _ (by omega)]; simp
      | succ k =>
        simp at ho
        obtain ⟨acc', g1, g2, g3⟩ := h3 k o ho
        exact ⟨acc', by omega, g2, by rw [show acc.size + (k + 1) = acc.size + 1 + k by omega]; exact g3⟩
theorem before_spec {ops : Array Oper} {j : Nat} {o : Oper} (ho : ops[j]? = some o) {i : Nat} (h : bit (Region.before ops) j i = true) :
    ∃ e ∈ o.after, Region.binds .any e = true ∧ (i = e.on ∨ (e.on < j ∧ bit (Region.before ops) e.on i = true)) := by
  have hb : Region.before ops = ops.toList.foldl (fun acc o => acc.push (maskOf acc o)) #[] := by
    unfold Region.before maskOf
    rw [← Array.foldl_toList]
  obtain ⟨_, _, h3⟩ := before_go ops.toList #[]
  obtain ⟨acc', g1, g2, g3⟩ := h3 j o (by simpa using ho)
  rw [← hb] at g2 g3
  simp only [List.size_toArray, List.length_nil, Nat.zero_add] at g1 g3
  unfold bit at h
  rw [Array.getD_eq_getD_getElem?, g3] at h
  simp only [Option.getD_some] at h
  obtain ⟨e, he, hbnd, hor⟩ := maskOf_bit _ _ _ h
  refine ⟨e, he, hbnd, ?_⟩
  rcases hor with h1 | h1
  · exact .inl h1
  · right
    by_cases hlt : e.on < j
    · refine ⟨hlt, ?_⟩
      unfold bit
      rw [Array.getD_eq_getD_getElem?] at h1 ⊢
      rw [g2 e.on (by omega)]
      exact h1
    · rw [Array.getD_eq_getD_getElem?, Array.getElem?_eq_none (by omega)] at h1
      simp at h1
def Closed (ops : Array Oper) (D : Nat → Prop) : Prop := ∀ j o, ops[j]? = some o → D j → ∀ e ∈ o.after, Region.binds .any e = true → D e.on
theorem closed_bit {ops : Array Oper} {D : Nat → Prop} (hD : Closed ops D) : ∀ (j : Nat) (o : Oper), ops[j]? = some o → (∀ e ∈ o.after, Region.binds .any e = true → D e.on) → ∀ i, bit (Region.before ops) j i = true → D i := by
  intro j
  induction j using Nat.strongRecOn with
  | _ j ih =>
    intro o ho hall i hb
    obtain ⟨e, he, hbnd, hor⟩ := before_spec ho hb
    rcases hor with h1 | ⟨h1, h2⟩
    · subst h1; exact hall e he hbnd
    · have hDe := hall e he hbnd
      have hlt : e.on < ops.size := by have := (Array.getElem?_eq_some_iff.1 ho).1; omega
      exact ih e.on h1 ops[e.on] (Array.getElem?_eq_getElem hlt) (fun e' he' hb' => hD e.on _ (Array.getElem?_eq_getElem hlt) hDe e' he' hb') i h2
theorem pairsAll_spec {f : Nat → Nat → Bool} : ∀ {l : List Nat}, pairsAll f l = true → ∀ (p q : Nat) (i j : Nat), p < q → l[p]? = some i → l[q]? = some j → f i j = true
  | [], _, p, q, i, j, _, h, _ => by simp at h
  | x :: l, h, p, q, i, j, hpq, hi, hj => by
    simp only [pairsAll, Bool.and_eq_true, List.all_eq_true] at h
    cases q with
    | zero => omega
    | succ q =>
      simp at hj
      cases p with
      | zero => simp at hi; subst hi; exact h.1 j (List.mem_of_getElem? hj)
      | succ p => simp at hi; exact pairsAll_spec h.2 p q i j (by omega) hi hj
structure Look (P : Program) (ops : Array Oper) : Prop where
  mem : ∀ i, i < ops.size → i ∈ sched P ops
  lt : ∀ i ∈ sched P ops, i < ops.size
  back : ∀ (j : Nat) (o : Oper), ops[j]? = some o → ∀ e ∈ o.after, Region.binds .any e = true → e.on < j
  ne : ∀ (p q i j : Nat), p < q → (sched P ops)[p]? = some i → (sched P ops)[q]? = some j → i ≠ j
  pair : ∀ (p q i j : Nat), p < q → (sched P ops)[p]? = some i → (sched P ops)[q]? = some j → bit (Region.before ops) j i = true ∨
    (conflict ops i j = false ∧ ¬ (kindAt P ops j = .eff ∧ (kindAt P ops i = .eff ∨ kindAt P ops i = .new)))
theorem Look.of {P : Program} {ops : Array Oper} (h : drawOk P ops = true) : Look P ops := by
  simp only [drawOk, Bool.and_eq_true, List.all_eq_true] at h
  obtain ⟨⟨⟨h1, h2⟩, h3⟩, h4⟩ := h
  refine ⟨fun i hi => by simpa using h1 i (by simpa using hi), fun i hi => by simpa using h2 i hi, fun j o ho e he hb => ?_, fun p q i j hpq hi hj => ?_, fun p q i j hpq hi hj => ?_⟩
  · have hj : j < ops.size := (Array.getElem?_eq_some_iff.1 ho).1
    have := h3 j (by simpa using hj)
    simp only [ho, List.all_eq_true] at this
    have := this e (by simpa using he)
    rw [hb] at this
    simpa using this
  · have := pairsAll_spec h4 p q i j hpq hi hj
    simp only [Bool.and_eq_true] at this
    intro h0; subst h0; simp at this
  · have := pairsAll_spec h4 p q i j hpq hi hj
    simp only [Bool.and_eq_true, Bool.or_eq_true, Bool.not_eq_true', Bool.or_eq_false_iff, Bool.and_eq_false_iff] at this
    rcases this.2 with h5 | ⟨h5, h6⟩
    · exact .inl h5
    · refine .inr ⟨h5, ?_⟩
      rintro ⟨h7, h8⟩
      rcases h6 with h6 | ⟨h6, h9⟩
      · rw [h7] at h6; simp at h6
      · rcases h8 with h8 | h8
        · rw [h8] at h6; simp at h6
        · rw [h8] at h9; simp at h9
theorem trc_states {P : Program} {call : CallF} {ops : Array Oper} : ∀ {l : List Nat} {s s' : Trc}, trc P call ops l s = some s' →
    ∃ S : Nat → Trc, S 0 = s ∧ S l.length = s' ∧ ∀ p j, l[p]? = some j → trcStep P call ops (S p) j = some (S (p + 1))
  | [], s, s', h => by simp [trc] at h; subst h; exact ⟨fun _ => s, rfl, rfl, fun p j h => by simp at h⟩
  | j :: l, s, s', h => by
    simp only [trc] at h
    split at h
    · rename_i s1 h1
      obtain ⟨S, g1, g2, g3⟩ := trc_states h
      refine ⟨fun p => match p with | 0 => s | p + 1 => S p, rfl, g2, fun p i hi => ?_⟩
      cases p with
      | zero => simp at hi; subst hi; simp only [g1]; exact h1
      | succ p => simp at hi; exact g3 p i hi
    · cases h
end Go.Ev
namespace Go.Ev
open Go
set_option linter.unusedSimpArgs false
set_option linter.unusedVariables false
mutual
theorem VRel.swap {m1 m2 m3 : Mp} {v v1 v2 : Value} (h1 : VRel m1 v v1) (h2 : VRel m2 v v2) (h : ∀ b, m1 b ≠ none → m3 b = m2 b) : VRel m3 v v2 := by
  cases h1 with
  | ptr hb => cases h2 with
    | ptr hb2 => exact .ptr (by rw [h _ (by rw [hb]; simp)]; exact hb2)
  | slc hb _ _ _ => cases h2 with
    | slc hb2 hl hc ha => exact .slc (by rw [h _ (by rw [hb]; simp)]; exact hb2) hl hc ha
  | mp hb => cases h2 with
    | mp hb2 => exact .mp (by rw [h _ (by rw [hb]; simp)]; exact hb2)
  | func hf hc => cases h2 with
    | func hf2 hc2 => exact .func (hf.swap hf2 h) (hc.swap hc2 h)
  | iface hv => cases h2 with
    | iface hv2 => exact .iface (hv.swap hv2 h)
  | agg hv => cases h2 with
    | agg hv2 => exact .agg (hv.swap hv2 h)
  | tuple hv => cases h2 with
    | tuple hv2 => exact .tuple (hv.swap hv2 h)
  | bool b => cases h2; exact .bool b
  | int k n => cases h2; exact .int k n
  | float k n => cases h2; exact .float k n
  | complex k x y => cases h2; exact .complex k x y
  | string s => cases h2; exact .string s
  | nilp => cases h2; exact .nilp
  | nils => cases h2; exact .nils
  | nilm => cases h2; exact .nilm
  | nilc => cases h2; exact .nilc
  | hole => exact .hole
  | nilFunc => cases h2; exact .nilFunc
  | nilIface => cases h2; exact .nilIface
theorem VL.swap {m1 m2 m3 : Mp} {l l1 l2 : List Value} (h1 : VL m1 l l1) (h2 : VL m2 l l2) (h : ∀ b, m1 b ≠ none → m3 b = m2 b) : VL m3 l l2 := by
  cases h1 with
  | nil => cases h2; exact .nil
  | cons hv ht => cases h2 with
    | cons hv2 ht2 => exact .cons (hv.swap hv2 h) (ht.swap ht2 h)
end
theorem Rep.junk {P : Program} {m : Mp} {h : Hp} {w : World} (r : Rep P m h w) (ob : Obj) : Rep P m h { w with heap := w.heap.push ob } := by
  have hold : ∀ c : Nat, ∀ o, w.heap[c]? = some o → (w.heap.push ob)[c]? = some o := fun c o e => by
    have : c < w.heap.size := (Array.getElem?_eq_some_iff.1 e).1
    rw [Array.getElem?_push, if_neg (by omega)]; exact e
  refine ⟨fun b L e => by have := r.rng b L e; simp; omega, r.frs, fun b cs e st hb hd => ?_, fun b cs e base olds hb => ?_, fun b es ck hb => ?_, r.sep⟩
  · obtain ⟨L, cs', fz, h1, h2, h3⟩ := r.row b cs e st hb hd; exact ⟨L, cs', fz, h1, hold _ _ h2, h3⟩
  · obtain ⟨L, cs', n, h1, h2, h3⟩ := r.rw b cs e base olds hb; exact ⟨L, cs', n, h1, hold _ _ h2, h3⟩
  · obtain ⟨L, es', h1, h2, h3⟩ := r.map b es ck hb; exact ⟨L, es', h1, hold _ _ h2, h3⟩
theorem Step.junk {m0 m : Mp} {h0 h : Hp} {w0 w : World} (s : Step m0 h0 w0 m h w) (ob : Obj) : Step m0 h0 w0 m h { w with heap := w.heap.push ob } := by
  refine ⟨s.le, s.next, by have := s.size; simp; omega, fun c hc hn => ?_, s.liv, s.old, s.os, s.tape, s.output⟩
  have := s.size
  rw [Array.getElem?_push, if_neg (by omega)]; exact s.same c hc hn
theorem Rep.commit {P : Program} {m : Mp} {h : Hp} {w : World} (r : Rep P m h w) {ob : Ob} {ob' : Obj} {c : Nat} (hc : w.heap[c]? = some ob') (hun : ∀ b L, m b = some L → L.blk ≠ c) (hob : ObRel m ob ob') :
    Rep P (m.upd h.next ⟨c, 0⟩) (h.push ob) w := by
  have hn := (r.frs h.next (Nat.le_refl _)).2
  have hle : m.le (m.upd h.next ⟨c, 0⟩) := Mp.le_upd hn
  have hlv : ∀ b, live (h.push ob) b → b ≠ h.next → live h b := fun b hl hb => by
    unfold live at *; rw [Hp.get_push, if_neg hb] at hl; exact hl
  have hclt : c < w.heap.size := (Array.getElem?_eq_some_iff.1 hc).1
  refine ⟨fun b L e => ?_, fun b hb => ?_, fun b cs e st hb hd => ?_, fun b cs e base olds hb => ?_, fun b es ck hb => ?_, fun b b' L L' hl hne hm hm' he => ?_⟩
  · unfold Mp.upd at e
    split at e
    · cases e; exact hclt
    · exact r.rng b L e
  · rw [Hp.next_push] at hb
    refine ⟨?_, ?_⟩
    · rw [Hp.get_push, if_neg (by omega)]; exact (r.frs b (by omega)).1
    · unfold Mp.upd; rw [if_neg (by omega)]; exact (r.frs b (by omega)).2
  · rw [Hp.get_push] at hb
    split at hb
    · rename_i hbn
      subst hbn
      rcases hob.hob (P := P) with ⟨cs1, cs', e1, n, base, olds, rfl, rfl, h1, h2, h3⟩ | ⟨rfl, rfl⟩
      · cases hb
        exact ⟨_, cs', (0, 0), Mp.upd_self _ _ _, hc, h1.mono hle⟩
      · cases hb
    · obtain ⟨L, cs', fz, h1, h2, h3⟩ := r.row b cs e st hb hd
      exact ⟨L, cs', fz, hle _ _ h1, h2, h3.mono hle⟩
  · rw [Hp.get_push] at hb
    split at hb
    · rename_i hbn
      subst hbn
      rcases hob.hob (P := P) with ⟨cs1, cs', e1, n, base, olds, rfl, rfl, h1, h2, h3⟩ | ⟨rfl, rfl⟩
      · cases hb
        exact ⟨_, cs', n, Mp.upd_self _ _ _, hc, h2, h3⟩
      · cases hb
    · obtain ⟨L, cs', n, h1, h2, h3⟩ := r.rw b cs e base olds hb
      exact ⟨L, cs', n, hle _ _ h1, h2, h3⟩
  · rw [Hp.get_push] at hb
    split at hb
    · rename_i hbn
      subst hbn
      rcases hob.hob (P := P) with ⟨cs1, cs', e1, n, base, olds, rfl, rfl, h1, h2, h3⟩ | ⟨rfl, rfl⟩
      · cases hb
      · cases hb
        exact ⟨_, #[], Mp.upd_self _ _ _, hc, .nil⟩
    · obtain ⟨L, es', h1, h2, h3⟩ := r.map b es ck hb
      exact ⟨L, es', hle _ _ h1, h2, h3.mono hle⟩
  · unfold Mp.upd at hm hm'
    split at hm
    · rename_i hbn
      cases hm
      rw [if_neg (by omega)] at hm'
      exact absurd he.symm (hun b' L' hm')
    · rename_i hbn
      split at hm'
      · cases hm'
        exact absurd he (hun b L hm)
      · rename_i hbn'
        rcases r.sep b b' L L' (hlv b hl hbn) hne hm hm' he with h1 | ⟨cs, e, base, olds, cs2, e2, h1, h2, h3, h4⟩
        · left; unfold inert at *; rw [Hp.get_push, if_neg hbn']; exact h1
        · right
          exact ⟨cs, e, base, olds, cs2, e2, by rw [Hp.get_push, if_neg hbn]; exact h1, h2, by rw [Hp.get_push, if_neg hbn']; exact h3, h4⟩
theorem Step.commit {P : Program} {m0 m : Mp} {h0 h : Hp} {w0 w : World} (r : Rep P m h w) (s : Step m0 h0 w0 m h w) (ob : Ob) {c : Nat} (hc : w0.heap.size ≤ c) : Step m0 h0 w0 (m.upd h.next ⟨c, 0⟩) (h.push ob) w := by
  have hn := (r.frs h.next (Nat.le_refl _)).2
  refine ⟨Mp.le_trans s.le (Mp.le_upd hn), by rw [Hp.next_push]; have := s.next; omega, s.size, s.same, fun b L hl hm hlt => ?_, fun b L hm hlt => ?_, s.os, s.tape, s.output⟩
  · unfold Mp.upd at hm
    split at hm
    · cases hm; simp at hlt; omega
    · rename_i hb
      unfold live at hl; rw [Hp.get_push, if_neg hb] at hl
      exact s.liv b L hl hm hlt
  · unfold Mp.upd at hm
    split at hm
    · cases hm; simp at hlt; omega
    · exact s.old b L hm hlt
theorem ObRel.mono {m m' : Mp} (hm : m.le m') {ob : Ob} {ob' : Obj} (h : ObRel m ob ob') : ObRel m' ob ob' := by
  rcases h with ⟨cs, cs', e, rfl, rfl, hv⟩ | h
  · exact .inl ⟨cs, cs', e, rfl, rfl, hv.mono hm⟩
  · exact .inr h
theorem wp_some {P : Program} {o : Oper} {a : Act} {w : World} {next : Act → World → Prop} (h : o.wp P a w next (fun _ _ _ => False)) : ∃ a' w', next a' w' := by
  unfold Oper.wp Oper.upon at h
  split at h
  · exact ⟨_, _, h⟩
  · exact ⟨_, _, h⟩
  · exact ⟨_, _, h⟩
  · obtain ⟨e, w', fr, hR, _⟩ := h []
    cases e with
    | returned v => exact ⟨_, _, hR⟩
    | panicked ch => exact hR.elim
    | outgrown => obtain ⟨a0, w0, hq⟩ := hR; exact hq.elim
  · obtain ⟨v, w', hR, _⟩ := h default []
    exact ⟨_, _, hR⟩
  · exact h.elim
  · exact h.elim
theorem cut_frame (fr : Fr) : ∀ l : List Tmp, ∃ g : Fr, ∀ t, g.get t = if t ∈ l then fr.get t else none
  | [] => ⟨.e, fun t => by simp [Tr.get_e]⟩
  | x :: l => by
    obtain ⟨g, hg⟩ := cut_frame fr l
    cases hx : fr.get x with
    | none => exact ⟨g, fun t => by rw [hg]; by_cases h1 : t = x <;> by_cases h2 : t ∈ l <;> simp [h1, h2, hx] <;> (try (subst h1; simp [hx]))⟩
    | some v => exact ⟨g.set x v, fun t => by rw [Tr.get_set, hg]; by_cases h1 : t = x <;> by_cases h2 : t ∈ l <;> simp [h1, h2, hx]⟩
theorem tmpsIn_mem {t : Tmp} : ∀ {l : List Operand}, Operand.tmp t ∈ l → t ∈ tmpsIn l
  | x :: l, h => by
    simp only [List.mem_cons] at h
    rcases h with rfl | h
    · simp [tmpsIn]
    · have := tmpsIn_mem h
      cases x <;> simp [tmpsIn, this]
theorem ev1_cut {fr g : Fr} {l : List Tmp} (hg : ∀ t, g.get t = if t ∈ l then fr.get t else none) {x : Operand} (hx : ∀ t, x = .tmp t → t ∈ l) : ev1 g x = ev1 fr x := by
  cases x with
  | tmp t => simp only [ev1, hg, if_pos (hx t rfl)]
  | _ => rfl
def cnt (D : Nat → Bool) : Nat → Nat
  | 0 => 0
  | n + 1 => cnt D n + (bif D n then 0 else 1)
theorem cnt_zero {D : Nat → Bool} : ∀ {n : Nat}, cnt D n = 0 → ∀ i, i < n → D i = true
  | n + 1, h, i, hi => by
    simp only [cnt] at h
    by_cases hin : i = n
    · subst hin
      cases hD : D i with
      | true => rfl
      | false => rw [hD] at h; simp at h
    · exact cnt_zero (n := n) (by omega) i (by omega)
theorem cnt_same {D D' : Nat → Bool} : ∀ {n : Nat}, (∀ k, k < n → D' k = D k) → cnt D' n = cnt D n
  | 0, _ => rfl
  | n + 1, h => by simp only [cnt]; rw [cnt_same (n := n) fun k hk => h k (by omega), h n (by omega)]
theorem cnt_set {D D' : Nat → Bool} {i : Nat} (h1 : D i = false) (h2 : D' i = true) (h3 : ∀ k, k ≠ i → D' k = D k) : ∀ {n : Nat}, i < n → cnt D' n + 1 = cnt D n
  | n + 1, hi => by
    simp only [cnt]
    by_cases hin : i = n
    · subst hin
      rw [cnt_same (n := i) (D := D) (D' := D') fun k hk => h3 k (by omega), h1, h2]
      simp
    · have := cnt_set h1 h2 h3 (n := n) (by omega)
      rw [h3 n (by omega)]
      omega
theorem cnt_all : ∀ n, cnt (fun _ => false) n = n
  | 0 => rfl
  | n + 1 => by simp [cnt, cnt_all n]
end Go.Ev
namespace Go.Ev
open Go
set_option linter.unusedSimpArgs false
set_option linter.unusedVariables false
theorem trcStep_spec {P : Program} {call : CallF} {ops : Array Oper} {s s' : Trc} {j : Nat} (h : trcStep P call ops s j = some s') :
    ∃ o b v, ops[j]? = some o ∧ evWanted ops s.fr o = some b ∧ s'.fr = put s.fr o.dst v ∧ (b = false → v = undef ∧ s'.h = s.h) ∧ (b = true → evOp P call s.fr o s.h = some (v, s'.h)) ∧
      (kindOf P o = .eff → s'.done = j :: s.done ∧ s'.bs = (j :: s.done, s'.h) :: s.bs ∧ s'.rs = s.rs) ∧ (kindOf P o ≠ .eff → s'.done = s.done ∧ s'.bs = s.bs) ∧
      (kindOf P o = .read → b = true → s'.rs = (j, s.fr, v) :: s.rs) ∧ (∀ x, x ∈ s.rs → x ∈ s'.rs) := by
  unfold trcStep at h
  split at h
  · cases h
  · rename_i o ho
    split at h
    · cases h
    · rename_i hw
      cases hk : (kindOf P o == Kd.eff) with
      | true =>
        rw [hk] at h; simp only [cond_true, Option.some.injEq] at h; subst h
        have hk' : kindOf P o = .eff := by simpa using hk
        exact ⟨o, false, undef, ho, hw, rfl, fun _ => ⟨rfl, rfl⟩, fun h => (by cases h), fun _ => ⟨rfl, rfl, rfl⟩, fun h => absurd hk' h, fun _ h => (by cases h), fun x hx => hx⟩
      | false =>
        rw [hk] at h; simp only [cond_false, Option.some.injEq] at h; subst h
        have hk' : kindOf P o ≠ .eff := by simpa using hk
        exact ⟨o, false, undef, ho, hw, rfl, fun _ => ⟨rfl, rfl⟩, fun h => (by cases h), fun h => absurd h hk', fun _ => ⟨rfl, rfl⟩, fun _ h => (by cases h), fun x hx => hx⟩
    · rename_i hw
      split at h
      · cases h
      · rename_i v h1 he
        split at h
        · rename_i hk
          simp only [Option.some.injEq] at h; subst h
          exact ⟨o, true, v, ho, hw, rfl, fun h => (by cases h), fun _ => he, fun _ => ⟨rfl, rfl, rfl⟩, fun h => absurd hk h, fun h => (by rw [hk] at h; cases h), fun x hx => hx⟩
        · rename_i hk
          simp only [Option.some.injEq] at h; subst h
          exact ⟨o, true, v, ho, hw, rfl, fun h => (by cases h), fun _ => he, fun h => (by rw [hk] at h; cases h), fun _ => ⟨rfl, rfl⟩, fun _ _ => rfl, fun x hx => by simp [hx]⟩
        · rename_i hk1 hk2
          simp only [Option.some.injEq] at h; subst h
          exact ⟨o, true, v, ho, hw, rfl, fun h => (by cases h), fun _ => he, fun h => absurd h (fun h => hk1 h), fun _ => ⟨rfl, rfl⟩, fun h => absurd h (fun h => hk2 h), fun x hx => hx⟩
structure Can (P : Program) (call : CallF) (ops : Array Oper) (L : List Nat) (S : Nat → Trc) (V : Nat → Value) (B : Nat → Bool) (O : Nat → Oper) : Prop where
  op : ∀ p j, L[p]? = some j → ops[j]? = some (O p)
  wn : ∀ p j, L[p]? = some j → evWanted ops (S p).fr (O p) = some (B p)
  fr : ∀ p j, L[p]? = some j → (S (p + 1)).fr = put (S p).fr (O p).dst (V p)
  no : ∀ p j, L[p]? = some j → B p = false → V p = undef ∧ (S (p + 1)).h = (S p).h
  yes : ∀ p j, L[p]? = some j → B p = true → evOp P call (S p).fr (O p) (S p).h = some (V p, (S (p + 1)).h)
  eff : ∀ p j, L[p]? = some j → kindOf P (O p) = .eff → (S (p + 1)).done = j :: (S p).done ∧ (S (p + 1)).bs = (j :: (S p).done, (S (p + 1)).h) :: (S p).bs ∧ (S (p + 1)).rs = (S p).rs
  neff : ∀ p j, L[p]? = some j → kindOf P (O p) ≠ .eff → (S (p + 1)).done = (S p).done ∧ (S (p + 1)).bs = (S p).bs
  read : ∀ p j, L[p]? = some j → kindOf P (O p) = .read → B p = true → (S (p + 1)).rs = (j, (S p).fr, V p) :: (S p).rs
  rs : ∀ p j, L[p]? = some j → ∀ x, x ∈ (S p).rs → x ∈ (S (p + 1)).rs
theorem Can.of {P : Program} {call : CallF} {ops : Array Oper} {L : List Nat} {S : Nat → Trc} (h : ∀ p j, L[p]? = some j → trcStep P call ops (S p) j = some (S (p + 1))) : ∃ V B O, Can P call ops L S V B O := by
  have key : ∀ p, ∃ x : Value × Bool × Oper, ∀ j, L[p]? = some j → ops[j]? = some x.2.2 ∧ evWanted ops (S p).fr x.2.2 = some x.2.1 ∧ (S (p + 1)).fr = put (S p).fr x.2.2.dst x.1 ∧ (x.2.1 = false → x.1 = undef ∧ (S (p + 1)).h = (S p).h) ∧ (x.2.1 = true → evOp P call (S p).fr x.2.2 (S p).h = some (x.1, (S (p + 1)).h)) ∧
      (kindOf P x.2.2 = .eff → (S (p + 1)).done = j :: (S p).done ∧ (S (p + 1)).bs = (j :: (S p).done, (S (p + 1)).h) :: (S p).bs ∧ (S (p + 1)).rs = (S p).rs) ∧ (kindOf P x.2.2 ≠ .eff → (S (p + 1)).done = (S p).done ∧ (S (p + 1)).bs = (S p).bs) ∧
      (kindOf P x.2.2 = .read → x.2.1 = true → (S (p + 1)).rs = (j, (S p).fr, x.1) :: (S p).rs) ∧ (∀ y, y ∈ (S p).rs → y ∈ (S (p + 1)).rs) := by
    intro p
    cases hp : L[p]? with
    | none => exact ⟨(undef, true, default), fun j hj => by cases hj⟩
    | some j =>
      obtain ⟨o, b, v, g⟩ := trcStep_spec (h p j hp)
      exact ⟨(v, b, o), fun j' hj' => by cases hj'; exact g⟩
  obtain ⟨f, hf⟩ := Classical.axiomOfChoice key
  refine ⟨fun p => (f p).1, fun p => (f p).2.1, fun p => (f p).2.2, ?_⟩
  exact ⟨fun p j hj => (hf p j hj).1, fun p j hj => (hf p j hj).2.1, fun p j hj => (hf p j hj).2.2.1, fun p j hj => (hf p j hj).2.2.2.1, fun p j hj => (hf p j hj).2.2.2.2.1, fun p j hj => (hf p j hj).2.2.2.2.2.1, fun p j hj => (hf p j hj).2.2.2.2.2.2.1, fun p j hj => (hf p j hj).2.2.2.2.2.2.2.1, fun p j hj => (hf p j hj).2.2.2.2.2.2.2.2⟩
section
variable {P : Program} {call : CallF} {ops : Array Oper} {L : List Nat} {S : Nat → Trc} {V : Nat → Value} {B : Nat → Bool} {O : Nat → Oper}
theorem Can.kind (C : Can P call ops L S V B O) {p j : Nat} (hj : L[p]? = some j) : kindAt P ops j = kindOf P (O p) := by
  unfold kindAt; rw [C.op p j hj]
theorem Can.sim (C : Can P call ops L S V B O) {I : Inv} (hI : StepClosed I) (hcall : CallOK P I call) {nt : Nat} (hd : ∀ o ∈ ops.toList, ∀ d, o.dst = some d → d < nt) {m0 : Mp} {a0 : Act} {w0 : World} (hf : FrRel m0 nt (S 0).fr a0.tmps) (r : Rep P m0 (S 0).h w0) (hi : I m0 (S 0).h w0) :
    ∀ p, p ≤ L.length → ∃ (m : Mp) (a : Act) (w : World), FrRel m nt (S p).fr a.tmps ∧ Rep P m (S p).h w ∧ I m (S p).h w ∧ (∀ q, q < p → (S q).h.next ≤ (S (q + 1)).h.next) := by
  intro p
  induction p with
  | zero => intro _; exact ⟨m0, a0, w0, hf, r, hi, fun q hq => by omega⟩
  | succ p ih =>
    intro hp
    obtain ⟨m, a, w, hf, r, hi, hmono⟩ := ih (by omega)
    have hj : L[p]? = some L[p] := List.getElem?_eq_getElem (by omega)
    have hdo : ∀ d, (O p).dst = some d → d < nt := fun d h => hd _ (by have := C.op p _ hj; rw [← Array.getElem?_toList] at this; exact List.mem_of_getElem? this) d h
    cases hb : B p with
    | false =>
      obtain ⟨h1, h2⟩ := C.no p _ hj hb
      refine ⟨m, a.put (O p).dst undef, w, ?_, by rw [h2]; exact r, by rw [h2]; exact hi, fun q hq => ?_⟩
      · rw [C.fr p _ hj, h1]; exact hf.put hdo (undef_rel m)
      · by_cases hqp : q = p
        · subst hqp; rw [h2]; exact Nat.le_refl _
        · exact hmono q (by omega)
    | true =>
      have he := C.yes p _ hj hb
      have := wp_some (evOp_wp hcall r hi hf he (next := fun a' w' => ∃ m', FrRel m' nt (S (p + 1)).fr a'.tmps ∧ Rep P m' (S (p + 1)).h w' ∧ I m' (S (p + 1)).h w' ∧ (S p).h.next ≤ (S (p + 1)).h.next) (Q := fun _ _ _ => False) fun v' m' w' r' s' hv =>
        ⟨m', by rw [C.fr p _ hj]; exact (hf.mono s'.le).put hdo hv, r', hI _ _ _ _ _ _ hi s', s'.next⟩)
      obtain ⟨a', w', m', g1, g2, g4, g3⟩ := this
      refine ⟨m', a', w', g1, g2, g4, fun q hq => ?_⟩
      by_cases hqp : q = p
      · subst hqp; exact g3
      · exact hmono q (by omega)
def Exp (L : List Nat) (V : Nat → Value) (O : Nat → Oper) (fr0 : Fr) (A : Nat → Prop) (t : Tmp) (v : Value) : Prop :=
  (∃ p, p < L.length ∧ A p ∧ (O p).dst = some t ∧ v = V p ∧ ∀ q, p < q → q < L.length → A q → (O q).dst ≠ some t) ∨ ((∀ p, p < L.length → A p → (O p).dst ≠ some t) ∧ fr0.get t = some v)
theorem Can.exp (C : Can P call ops L S V B O) : ∀ q, q ≤ L.length → ∀ t v, (S q).fr.get t = some v → Exp L V O (S 0).fr (fun p => p < q) t v := by
  intro q
  induction q with
  | zero => intro _ t v h; exact .inr ⟨fun p _ h => by omega, h⟩
  | succ q ih =>
    intro hq t v h
    have hj : L[q]? = some L[q] := List.getElem?_eq_getElem (by omega)
    rw [C.fr q _ hj] at h
    have hcase : ((O q).dst = some t ∧ v = V q) ∨ ((O q).dst ≠ some t ∧ (S q).fr.get t = some v) := by
      unfold put at h
      split at h
      · rename_i d hd
        rw [Tr.get_set] at h
        split at h
        · rename_i htd; subst htd; left; simp at h; exact ⟨hd, h.symm⟩
        · rename_i htd; right; exact ⟨fun h0 => htd (by rw [hd] at h0; cases h0; rfl), h⟩
      · rename_i hd; right; exact ⟨fun h0 => (by rw [hd] at h0; cases h0), h⟩
    rcases hcase with ⟨h1, h2⟩ | ⟨h1, h2⟩
    · exact .inl ⟨q, by omega, by omega, h1, h2, fun q' h3 h4 h5 => by omega⟩
    · rcases ih (by omega) t v h2 with ⟨p, g1, g2, g3, g4, g5⟩ | ⟨g1, g2⟩
      · refine .inl ⟨p, g1, by omega, g3, g4, fun q' h3 h4 h5 => ?_⟩
        by_cases hqq : q' = q
        · subst hqq; exact h1
        · exact g5 q' h3 h4 (by omega)
      · refine .inr ⟨fun p hp hpq => ?_, g2⟩
        by_cases hqq : p = q
        · subst hqq; exact h1
        · exact g1 p hp (by omega)
theorem Can.done (C : Can P call ops L S V B O) (h0 : (S 0).done = []) : ∀ q, q ≤ L.length → ∀ e, e ∈ (S q).done ↔ ∃ p, p < q ∧ L[p]? = some e ∧ kindOf P (O p) = .eff := by
  intro q
  induction q with
  | zero => intro _ e; rw [h0]; simp
  | succ q ih =>
    intro hq e
    have hj : L[q]? = some L[q] := List.getElem?_eq_getElem (by omega)
    by_cases hk : kindOf P (O q) = .eff
    · rw [(C.eff q _ hj hk).1, List.mem_cons, ih (by omega)]
      constructor
      · rintro (rfl | ⟨p, h1, h2, h3⟩)
        · exact ⟨q, by omega, hj, hk⟩
        · exact ⟨p, by omega, h2, h3⟩
      · rintro ⟨p, h1, h2, h3⟩
        by_cases hpq : p = q
        · subst hpq; rw [hj] at h2; cases h2; exact .inl rfl
        · exact .inr ⟨p, by omega, h2, h3⟩
    · rw [(C.neff q _ hj hk).1, ih (by omega)]
      constructor
      · rintro ⟨p, h1, h2, h3⟩; exact ⟨p, by omega, h2, h3⟩
      · rintro ⟨p, h1, h2, h3⟩
        by_cases hpq : p = q
        · subst hpq; exact absurd h3 hk
        · exact ⟨p, by omega, h2, h3⟩
theorem Can.bs_mono (C : Can P call ops L S V B O) : ∀ d q, q + d ≤ L.length → ∀ x, x ∈ (S q).bs → x ∈ (S (q + d)).bs := by
  intro d
  induction d with
  | zero => intro q _ x hx; exact hx
  | succ d ih =>
    intro q hq x hx
    have h1 := ih q (by omega) x hx
    have hj : L[q + d]? = some L[q + d] := List.getElem?_eq_getElem (by omega)
    rw [← Nat.add_assoc]
    by_cases hk : kindOf P (O (q + d)) = .eff
    · rw [(C.eff _ _ hj hk).2.1]; exact List.mem_cons_of_mem _ h1
    · rw [(C.neff _ _ hj hk).2]; exact h1
theorem Can.rs_mono (C : Can P call ops L S V B O) : ∀ d q, q + d ≤ L.length → ∀ x, x ∈ (S q).rs → x ∈ (S (q + d)).rs := by
  intro d
  induction d with
  | zero => intro q _ x hx; exact hx
  | succ d ih =>
    intro q hq x hx
    have hj : L[q + d]? = some L[q + d] := List.getElem?_eq_getElem (by omega)
    rw [← Nat.add_assoc]
    exact C.rs _ _ hj _ (ih q (by omega) x hx)
end
end Go.Ev
namespace Go.Ev
open Go
set_option linter.unusedSimpArgs false
set_option linter.unusedVariables false
structure Env where
  P : Program
  call : CallF
  ops : Array Oper
  S : Nat → Trc
  V : Nat → Value
  B : Nat → Bool
  O : Nat → Oper
  nt : Nat
  m0 : Mp
  h0 : Hp
  w0 : World
  a0 : Act
  I : Ev.Inv
namespace Env
variable (E : Env)
abbrev L : List Nat := sched E.P E.ops
def Early (listed : Array Bool) (K p : Nat) : Prop := K ≤ p ∧ ∃ j : Nat, E.L[p]? = some j ∧ kindOf E.P (E.O p) = .new ∧ E.B p = true ∧ listed.getD j false = true
structure OK : Prop where
  hcall : CallOK E.P E.I E.call
  hI : StepClosed E.I
  ini : E.I E.m0 E.h0 E.w0
  can : Can E.P E.call E.ops E.L E.S E.V E.B E.O
  look : Look E.P E.ops
  hd : ∀ o ∈ E.ops.toList, ∀ d, o.dst = some d → d < E.nt
  s0 : (E.S 0).h = E.h0
  frel : FrRel E.m0 E.nt (E.S 0).fr E.a0.tmps
  rep : Rep E.P E.m0 E.h0 E.w0
  done : (E.S 0).done = []
  bs : ([], E.h0) ∈ (E.S 0).bs
  reads : readsOk E.P E.ops ((List.range E.ops.size).filter fun j => kindAt E.P E.ops j == .eff) (E.S E.L.length) = true
structure Inv (listed : Array Bool) (a : Act) (w : World) (m mp : Mp) (K : Nat) : Prop where
  sz : listed.size = E.ops.size
  closed : Closed E.ops (fun j => listed.getD j false = true)
  hK : K ≤ E.L.length
  effs : ∀ p j : Nat, E.L[p]? = some j → kindOf E.P (E.O p) = .eff → (listed.getD j false = true ↔ p < K)
  kb : K = 0 ∨ ∃ p j, K = p + 1 ∧ E.L[p]? = some j ∧ kindOf E.P (E.O p) = .eff
  news : ∀ p j : Nat, p < K → E.L[p]? = some j → kindOf E.P (E.O p) = .new → listed.getD j false = true
  rep : Rep E.P m (E.S K).h w
  step : Step E.m0 E.h0 E.w0 m (E.S K).h w
  le : m.le mp
  mp2 : ∀ b L', mp b = some L' → m b = some L' ∨ ∃ p, E.Early listed K p ∧ b = (E.S p).h.next
  early : ∀ p, E.Early listed K p → ∃ ob mk c ob', evNew E.P (E.S p).fr (E.O p) = some (ob, mk) ∧ mp (E.S p).h.next = some ⟨c, 0⟩ ∧ w.heap[c]? = some ob' ∧ ObRel mp ob ob' ∧
    (∀ b L', m b = some L' → L'.blk ≠ c) ∧ (∀ b L', mp b = some L' → L'.blk = c → b = (E.S p).h.next) ∧ E.w0.heap.size ≤ c
  frel : ∀ t v, Exp E.L E.V E.O (E.S 0).fr (fun p => ∃ j : Nat, E.L[p]? = some j ∧ listed.getD j false = true) t v → ∃ v', a.tmps[t]? = some v' ∧ VRel mp v v'
  tsz : a.tmps.size = E.nt
  df : a.defers = E.a0.defers
end Env
section
variable {E : Env}
theorem Env.OK.sim (K : E.OK) (p : Nat) (hp : p ≤ E.L.length) : ∃ (m : Mp) (a : Act) (w : World), FrRel m E.nt (E.S p).fr a.tmps ∧ Rep E.P m (E.S p).h w ∧ (∀ q, q < p → (E.S q).h.next ≤ (E.S (q + 1)).h.next) := by
  obtain ⟨m, a, w, h1, h2, _, h3⟩ := K.can.sim K.hI K.hcall K.hd K.frel (by rw [K.s0]; exact K.rep) (by rw [K.s0]; exact K.ini) p hp
  exact ⟨m, a, w, h1, h2, h3⟩
theorem Env.OK.mono (K : E.OK) : ∀ d p, p + d ≤ E.L.length → (E.S p).h.next ≤ (E.S (p + d)).h.next := by
  intro d
  induction d with
  | zero => intro p _; exact Nat.le_refl _
  | succ d ih =>
    intro p hp
    obtain ⟨_, _, _, _, _, h⟩ := K.sim E.L.length (Nat.le_refl _)
    exact Nat.le_trans (ih p (by omega)) (h (p + d) (by omega))
theorem Env.OK.mono' (K : E.OK) {p q : Nat} (hpq : p ≤ q) (hq : q ≤ E.L.length) : (E.S p).h.next ≤ (E.S q).h.next := by
  have := K.mono (q - p) p (by omega)
  rwa [show p + (q - p) = q by omega] at this
theorem Env.OK.new (K : E.OK) {p j : Nat} (hj : E.L[p]? = some j) (hk : kindOf E.P (E.O p) = .new) (hb : E.B p = true) : ∃ ob mk, evNew E.P (E.S p).fr (E.O p) = some (ob, mk) ∧ E.V p = mk (E.S p).h.next ∧ (E.S (p + 1)).h = (E.S p).h.push ob := by
  have he := K.can.yes p j hj hb
  unfold evOp at he
  rw [hk] at he
  simp only [Option.map_eq_some_iff, Prod.mk.injEq] at he
  obtain ⟨⟨ob, mk⟩, h1, h2, h3⟩ := he
  exact ⟨ob, mk, h1, h2.symm, h3.symm⟩
theorem Env.OK.new_next (K : E.OK) {p j : Nat} (hj : E.L[p]? = some j) (hk : kindOf E.P (E.O p) = .new) (hb : E.B p = true) : (E.S (p + 1)).h.next = (E.S p).h.next + 1 := by
  obtain ⟨ob, mk, _, _, h3⟩ := K.new hj hk hb
  rw [h3]; rfl
theorem lt_of_get {l : List Nat} {p j : Nat} (h : l[p]? = some j) : p < l.length := (List.getElem?_eq_some_iff.1 h).1
theorem Env.OK.apart (K : E.OK) {p q i j : Nat} (hi : E.L[p]? = some i) (hj : E.L[q]? = some j) (hk : kindOf E.P (E.O p) = .new) (hb : E.B p = true) (hpq : p < q) : (E.S p).h.next < (E.S q).h.next := by
  have h1 := K.new_next hi hk hb
  have h2 := K.mono' (p := p + 1) (q := q) (by omega) (Nat.le_of_lt (lt_of_get hj))
  omega
theorem Env.Inv.at_hand (K : E.OK) {listed : Array Bool} {a : Act} {w : World} {m mp : Mp} {k : Nat} (I : E.Inv listed a w m mp k) {q j : Nat} (hj : E.L[q]? = some j) (hun : listed.getD j false = false)
    (hready : ∀ e ∈ (E.O q).after, Region.binds .any e = true → listed.getD e.on false = true) :
    ∃ g : Fr, (∀ t, g.get t = if t ∈ looks E.ops (E.O q) then (E.S q).fr.get t else none) ∧ FrRel mp E.nt g a.tmps := by
  obtain ⟨g, hg⟩ := cut_frame (E.S q).fr (looks E.ops (E.O q))
  refine ⟨g, hg, I.tsz, fun t v e => ?_⟩
  rw [hg] at e
  split at e
  · rename_i ht
    have hex := K.can.exp q (Nat.le_of_lt (lt_of_get hj)) t v e
    refine I.frel t v ?_
    -- the two sets of operations agree on those that write this slot
    have agree : ∀ p, p < E.L.length → (E.O p).dst = some t → (p < q ↔ ∃ i : Nat, E.L[p]? = some i ∧ listed.getD i false = true) := by
      intro p hp hdst
      have hi : E.L[p]? = some E.L[p] := List.getElem?_eq_getElem hp
      have hcf1 : looksAt E.ops j = looks E.ops (E.O q) := by unfold looksAt; rw [K.can.op q j hj]
      have hcf2 : dstAt E.ops E.L[p] = some t := by unfold dstAt; rw [K.can.op p _ hi]; exact hdst
      constructor
      · intro hpq
        refine ⟨_, hi, ?_⟩
        rcases K.look.pair p q _ j hpq hi hj with h1 | ⟨h1, _⟩
        · exact closed_bit I.closed j (E.O q) (K.can.op q j hj) hready _ h1
        · exfalso
          simp [conflict, hcf2, hcf1, ht] at h1
      · rintro ⟨i, hi', hl⟩
        rw [hi] at hi'; cases hi'
        rcases Nat.lt_trichotomy p q with h1 | h1 | h1
        · exact h1
        · subst h1; rw [hi] at hj; cases hj; rw [hun] at hl; cases hl
        · exfalso
          rcases K.look.pair q p j _ h1 hj hi with h2 | ⟨h2, _⟩
          · have : listed.getD j false = true := closed_bit I.closed _ (E.O p) (K.can.op p _ hi) (fun e he hb => I.closed _ _ (K.can.op p _ hi) hl e he hb) _ h2
            rw [hun] at this; cases this
          · simp [conflict, hcf2, hcf1, ht] at h2
    rcases hex with ⟨p, h1, h2, h3, h4, h5⟩ | ⟨h1, h2⟩
    · exact .inl ⟨p, h1, (agree p h1 h3).1 h2, h3, h4, fun q' g1 g2 g3 g4 => h5 q' g1 g2 ((agree q' g2 g4).2 g3) g4⟩
    · exact .inr ⟨fun p g1 g2 g3 => h1 p g1 ((agree p g1 g3).2 g2) g3, h2⟩
  · cases e
theorem Env.Inv.frel_put (K : E.OK) {listed : Array Bool} {a : Act} {w : World} {m mp mp' : Mp} {k : Nat} (I : E.Inv listed a w m mp k) {q j : Nat} (hj : E.L[q]? = some j) (hun : listed.getD j false = false) (hle : mp.le mp')
    {v' : Value} (hv : VRel mp' (E.V q) v') :
    ∀ t v, Exp E.L E.V E.O (E.S 0).fr (fun p => ∃ i : Nat, E.L[p]? = some i ∧ (listed.setIfInBounds j true).getD i false = true) t v → ∃ v'', (a.put (E.O q).dst v').tmps[t]? = some v'' ∧ VRel mp' v v'' := by
  intro t v hex
  have hq := lt_of_get hj
  have hjs : j < listed.size := by rw [I.sz]; exact K.look.lt j (List.mem_of_getElem? hj)
  have hself : (listed.setIfInBounds j true).getD j false = true := by simp [Array.getD_eq_getD_getElem?, hjs]
  have hother : ∀ i, i ≠ j → (listed.setIfInBounds j true).getD i false = listed.getD i false := fun i hi => by
    simp only [Array.getD_eq_getD_getElem?]; rw [Array.getElem?_setIfInBounds_ne (by omega)]
  have huniq : ∀ p i : Nat, E.L[p]? = some i → p ≠ q → i ≠ j := fun p i hi hpq hij => by
    rcases Nat.lt_or_gt_of_ne hpq with h1 | h1
    · exact K.look.ne p q i j h1 hi hj hij
    · exact K.look.ne q p j i h1 hj hi hij.symm
  by_cases hdst : (E.O q).dst = some t
  · -- it is the last that writes the slot
    have hlast : ∀ p i : Nat, q < p → E.L[p]? = some i → listed.getD i false = true → (E.O p).dst ≠ some t := by
      intro p i hqp hi hl hd
      rcases K.look.pair q p j i hqp hj hi with h2 | ⟨h2, _⟩
      · have : listed.getD j false = true := closed_bit I.closed i (E.O p) (K.can.op p i hi) (fun e he hb => I.closed i _ (K.can.op p i hi) hl e he hb) _ h2
        rw [hun] at this; cases this
      · have e1 : dstAt E.ops j = some t := by unfold dstAt; rw [K.can.op q j hj]; exact hdst
        have e2 : dstAt E.ops i = some t := by unfold dstAt; rw [K.can.op p i hi]; exact hd
        simp [conflict, e1, e2] at h2
    have hvq : v = E.V q := by
      rcases hex with ⟨p, h1, ⟨i, hi, hl⟩, h3, h4, h5⟩ | ⟨h1, h2⟩
      · rcases Nat.lt_trichotomy p q with h6 | h6 | h6
        · exact absurd hdst (h5 q h6 hq ⟨j, hj, hself⟩)
        · subst h6; exact h4
        · rw [hother i (huniq p i hi (by omega))] at hl
          exact absurd h3 (hlast p i h6 hi hl)
      · exact absurd hdst (h1 q hq ⟨j, hj, hself⟩)
    subst hvq
    have htn : t < E.nt := K.hd _ (by have := K.can.op q j hj; rw [← Array.getElem?_toList] at this; exact List.mem_of_getElem? this) t hdst
    refine ⟨v', ?_, hv⟩
    simp [Act.put, hdst, I.tsz, htn]
  · have hold : Exp E.L E.V E.O (E.S 0).fr (fun p => ∃ i : Nat, E.L[p]? = some i ∧ listed.getD i false = true) t v := by
      have back : ∀ p, (E.O p).dst = some t → (∃ i : Nat, E.L[p]? = some i ∧ (listed.setIfInBounds j true).getD i false = true) → ∃ i : Nat, E.L[p]? = some i ∧ listed.getD i false = true := by
        rintro p hp ⟨i, hi, hl⟩
        have hpq : p ≠ q := fun h0 => by subst h0; exact hdst hp
        rw [hother i (huniq p i hi hpq)] at hl
        exact ⟨i, hi, hl⟩
      have forth : ∀ p : Nat, (∃ i : Nat, E.L[p]? = some i ∧ listed.getD i false = true) → ∃ i : Nat, E.L[p]? = some i ∧ (listed.setIfInBounds j true).getD i false = true := by
        rintro p ⟨i, hi, hl⟩
        refine ⟨i, hi, ?_⟩
        by_cases hij : i = j
        · subst hij; exact hself
        · rw [hother i hij]; exact hl
      rcases hex with ⟨p, h1, h2, h3, h4, h5⟩ | ⟨h1, h2⟩
      · exact .inl ⟨p, h1, back p h3 h2, h3, h4, fun q' g1 g2 g3 => h5 q' g1 g2 (forth q' g3)⟩
      · exact .inr ⟨fun p g1 g2 => h1 p g1 (forth p g2), h2⟩
    obtain ⟨v'', h1, h2⟩ := I.frel t v hold
    refine ⟨v'', ?_, h2.mono hle⟩
    cases hd : (E.O q).dst with
    | none => simpa [Act.put] using h1
    | some d =>
      have : d ≠ t := fun h0 => hdst (by rw [hd, h0])
      simp only [Act.put]
      rw [Array.getElem?_setIfInBounds_ne this]
      exact h1
theorem Env.Inv.listed_set (K : E.OK) {listed : Array Bool} {a : Act} {w : World} {m mp : Mp} {k : Nat} (I : E.Inv listed a w m mp k) {q j : Nat} (hj : E.L[q]? = some j)
    (hready : ∀ e ∈ (E.O q).after, Region.binds .any e = true → listed.getD e.on false = true) :
    (listed.setIfInBounds j true).size = E.ops.size ∧ Closed E.ops (fun i => (listed.setIfInBounds j true).getD i false = true) ∧
    (listed.setIfInBounds j true).getD j false = true ∧ (∀ i, i ≠ j → (listed.setIfInBounds j true).getD i false = listed.getD i false) := by
  have hjs : j < listed.size := by rw [I.sz]; exact K.look.lt j (List.mem_of_getElem? hj)
  have hself : (listed.setIfInBounds j true).getD j false = true := by simp [Array.getD_eq_getD_getElem?, hjs]
  have hother : ∀ i, i ≠ j → (listed.setIfInBounds j true).getD i false = listed.getD i false := fun i hi => by
    simp only [Array.getD_eq_getD_getElem?]; rw [Array.getElem?_setIfInBounds_ne (by omega)]
  have hup : ∀ i, listed.getD i false = true → (listed.setIfInBounds j true).getD i false = true := fun i hi => by
    by_cases hij : i = j
    · subst hij; exact hself
    · rw [hother i hij]; exact hi
  refine ⟨by simp [I.sz], fun i o ho hi0 e he hb => ?_, hself, hother⟩
  have hi : (listed.setIfInBounds j true).getD i false = true := hi0
  show (listed.setIfInBounds j true).getD e.on false = true
  by_cases hij : i = j
  · subst hij
    have := K.can.op q i hj
    rw [ho] at this; cases this
    exact hup _ (hready e he hb)
  · rw [hother i hij] at hi
    exact hup _ (I.closed i o ho hi e he hb)
theorem Env.OK.pos (K : E.OK) {p q i : Nat} (hp : E.L[p]? = some i) (hq : E.L[q]? = some i) : p = q := by
  rcases Nat.lt_trichotomy p q with h | h | h
  · exact absurd rfl (K.look.ne p q i i h hp hq)
  · exact h
  · exact absurd rfl (K.look.ne q p i i h hq hp)
end
end Go.Ev
namespace Go.Ev
open Go
set_option linter.unusedSimpArgs false
set_option linter.unusedVariables false
section
variable {E : Env}
theorem Env.Inv.quiet (K : E.OK) {listed : Array Bool} {a : Act} {w : World} {m mp : Mp} {k : Nat} (I : E.Inv listed a w m mp k) {q j : Nat} (hj : E.L[q]? = some j) (hun : listed.getD j false = false)
    (hready : ∀ e ∈ (E.O q).after, Region.binds .any e = true → listed.getD e.on false = true) (hk : kindOf E.P (E.O q) ≠ .eff) (hnew : kindOf E.P (E.O q) = .new → E.B q = false) {v' : Value} (hv : VRel mp (E.V q) v') :
    E.Inv (listed.setIfInBounds j true) (a.put (E.O q).dst v') w m mp k := by
  obtain ⟨h1, h2, h3, h4⟩ := I.listed_set K hj hready
  have hne : ∀ p i : Nat, E.L[p]? = some i → kindOf E.P (E.O p) = .eff → i ≠ j := fun p i hi hki hij => by
    subst hij; have := K.pos hi hj; subst this; exact hk hki
  have hearly : ∀ p, E.Early (listed.setIfInBounds j true) k p → E.Early listed k p := by
    rintro p ⟨g1, i, g2, g3, g4, g5⟩
    refine ⟨g1, i, g2, g3, g4, ?_⟩
    rw [h4 i] at g5
    · exact g5
    · intro hij; subst hij; have := K.pos g2 hj; subst this
      rw [hnew g3] at g4; cases g4
  have hearly' : ∀ p, E.Early listed k p → E.Early (listed.setIfInBounds j true) k p := by
    rintro p ⟨g1, i, g2, g3, g4, g5⟩
    refine ⟨g1, i, g2, g3, g4, ?_⟩
    by_cases hij : i = j
    · subst hij; exact h3
    · rw [h4 i hij]; exact g5
  refine ⟨h1, h2, I.hK, fun p i hi hki => ?_, I.kb, fun p i hp hi hki => ?_, I.rep, I.step, I.le, fun b L' hb => ?_, fun p hp => I.early p (hearly p hp), I.frel_put K hj hun (Mp.le_refl _) hv, ?_, ?_⟩
  · rw [h4 i (hne p i hi hki)]; exact I.effs p i hi hki
  · by_cases hij : i = j
    · subst hij; exact h3
    · rw [h4 i hij]; exact I.news p i hp hi hki
  · rcases I.mp2 b L' hb with g | ⟨p, g1, g2⟩
    · exact .inl g
    · exact .inr ⟨p, hearly' p g1, g2⟩
  · cases hd : (E.O q).dst <;> simp [Act.put, I.tsz]
  · rw [put_defers]; exact I.df
theorem Env.Inv.fresh (K : E.OK) {listed : Array Bool} {a : Act} {w : World} {m mp : Mp} {k : Nat} (I : E.Inv listed a w m mp k) {q j : Nat} (hj : E.L[q]? = some j) (hun : listed.getD j false = false)
    (hready : ∀ e ∈ (E.O q).after, Region.binds .any e = true → listed.getD e.on false = true) (hk : kindOf E.P (E.O q) = .new) (hb : E.B q = true)
    {ob : Ob} {mk : Nat → Value} (hn : evNew E.P (E.S q).fr (E.O q) = some (ob, mk)) {ob' : Obj} (hob : ObRel mp ob ob') {v' : Value}
    (hv : ∀ (m' : Mp), m' (E.S q).h.next = some ⟨w.heap.size, 0⟩ → VRel m' (E.V q) v') :
    E.Inv (listed.setIfInBounds j true) (a.put (E.O q).dst v') { w with heap := w.heap.push ob' } m (mp.upd (E.S q).h.next ⟨w.heap.size, 0⟩) k := by
  obtain ⟨h1, h2, h3, h4⟩ := I.listed_set K hj hready
  have hq := lt_of_get hj
  have hkq : k ≤ q := by
    rcases Nat.lt_or_ge q k with h | h
    · have := I.news q j h hj hk; rw [hun] at this; cases this
    · exact h
  have hnone : mp (E.S q).h.next = none := by
    cases hm : mp (E.S q).h.next with
    | none => rfl
    | some L' =>
      exfalso
      rcases I.mp2 _ _ hm with g | ⟨p, ⟨g1, i, g2, g3, g4, g5⟩, g6⟩
      · have := (I.rep.frs _ (K.mono' hkq (Nat.le_of_lt hq))).2
        rw [this] at g; cases g
      · rcases Nat.lt_trichotomy p q with h | h | h
        · have := K.apart g2 hj g3 g4 h; omega
        · subst h; rw [hj] at g2; cases g2; rw [hun] at g5; cases g5
        · have := K.apart hj g2 hk hb h; omega
  have hle : mp.le (mp.upd (E.S q).h.next ⟨w.heap.size, 0⟩) := Mp.le_upd hnone
  have hne : ∀ p i : Nat, E.L[p]? = some i → kindOf E.P (E.O p) = .eff → i ≠ j := fun p i hi hki hij => by
    subst hij; have := K.pos hi hj; subst this; rw [hk] at hki; cases hki
  have hup : ∀ i, listed.getD i false = true → (listed.setIfInBounds j true).getD i false = true := fun i hi => by
    by_cases hij : i = j
    · subst hij; exact h3
    · rw [h4 i hij]; exact hi
  have hrange : ∀ b L', mp b = some L' → L'.blk < w.heap.size := fun b L' hb' => by
    rcases I.mp2 b L' hb' with g | ⟨p, g1, g2⟩
    · exact I.rep.rng b L' g
    · obtain ⟨_, _, c, _, _, e2, e3, _⟩ := I.early p g1
      rw [g2, e2] at hb'; cases hb'
      exact (Array.getElem?_eq_some_iff.1 e3).1
  refine ⟨h1, h2, I.hK, fun p i hi hki => ?_, I.kb, fun p i hp hi hki => hup _ (I.news p i hp hi hki), I.rep.junk ob', I.step.junk ob', Mp.le_trans I.le hle, fun b L' hb' => ?_, fun p hp => ?_, I.frel_put K hj hun hle (hv _ (Mp.upd_self _ _ _)), ?_, ?_⟩
  · rw [h4 i (hne p i hi hki)]; exact I.effs p i hi hki
  · unfold Mp.upd at hb'
    split at hb'
    · rename_i hbq
      exact .inr ⟨q, ⟨hkq, j, hj, hk, hb, h3⟩, hbq⟩
    · rcases I.mp2 b L' hb' with g | ⟨p, ⟨g1, i, g2, g3, g4, g5⟩, g6⟩
      · exact .inl g
      · exact .inr ⟨p, ⟨g1, i, g2, g3, g4, hup _ g5⟩, g6⟩
  · by_cases hpq : p = q
    · subst hpq
      refine ⟨ob, mk, w.heap.size, ob', hn, Mp.upd_self _ _ _, by simp, hob.mono hle, fun b L' hm he => ?_, fun b L' hm he => ?_, I.step.size⟩
      · have := I.rep.rng b L' hm; omega
      · unfold Mp.upd at hm
        split at hm
        · assumption
        · have := hrange b L' hm; omega
    · obtain ⟨g1, i, g2, g3, g4, g5⟩ := hp
      have hij : i ≠ j := fun h => hpq (by subst h; exact K.pos g2 hj)
      rw [h4 i hij] at g5
      obtain ⟨ob1, mk1, c, ob1', e1, e2, e3, e4, e5, e6, e7⟩ := I.early p ⟨g1, i, g2, g3, g4, g5⟩
      have hc := (Array.getElem?_eq_some_iff.1 e3).1
      refine ⟨ob1, mk1, c, ob1', e1, hle _ _ e2, ?_, e4.mono hle, e5, fun b L' hm he => ?_, e7⟩
      · simp only [Array.getElem?_push]; rw [if_neg (by omega)]; exact e3
      · unfold Mp.upd at hm
        split at hm
        · cases hm; simp at he; omega
        · exact e6 b L' hm he
  · cases hd : (E.O q).dst <;> simp [Act.put, I.tsz]
  · rw [put_defers]; exact I.df
theorem Env.Inv.commit (K : E.OK) {listed : Array Bool} {a : Act} {w : World} {m mp : Mp} {k : Nat} (I : E.Inv listed a w m mp k) {q j : Nat} (hj : E.L[q]? = some j) (hun : listed.getD j false = false)
    (hready : ∀ e ∈ (E.O q).after, Region.binds .any e = true → listed.getD e.on false = true) (hk : kindOf E.P (E.O q) = .eff) :
    k ≤ q ∧ ∀ d, k + d ≤ q → ∃ mc : Mp, Rep E.P mc (E.S (k + d)).h w ∧ Step E.m0 E.h0 E.w0 mc (E.S (k + d)).h w ∧ mc.le mp ∧ (∀ b, b < (E.S (k + d)).h.next → mp b = mc b) := by
  have hq := lt_of_get hj
  have hkq : k ≤ q := by
    rcases Nat.lt_or_ge q k with h | h
    · have := (I.effs q j hj hk).2 h; rw [hun] at this; cases this
    · exact h
  refine ⟨hkq, fun d => ?_⟩
  induction d with
  | zero =>
    intro _
    refine ⟨m, I.rep, I.step, I.le, fun b hb => ?_⟩
    cases hm : m b with
    | some L' => exact I.le _ _ hm
    | none =>
      cases hmp : mp b with
      | none => rfl
      | some L' =>
        exfalso
        rcases I.mp2 b L' hmp with g | ⟨p, ⟨g1, i, g2, _⟩, g6⟩
        · rw [hm] at g; cases g
        · have := K.mono' g1 (Nat.le_of_lt (lt_of_get g2))
          simp at hb; omega
  | succ d ih =>
    intro hd
    obtain ⟨mc, r, s, hle, hag⟩ := ih (by omega)
    have hp : k + d < E.L.length := by omega
    have hi : E.L[k + d]? = some E.L[k + d] := List.getElem?_eq_getElem hp
    have same : (E.S (k + d + 1)).h = (E.S (k + d)).h → ∃ mc : Mp, Rep E.P mc (E.S (k + (d + 1))).h w ∧ Step E.m0 E.h0 E.w0 mc (E.S (k + (d + 1))).h w ∧ mc.le mp ∧ (∀ b, b < (E.S (k + (d + 1))).h.next → mp b = mc b) := by
      intro h
      rw [show k + (d + 1) = k + d + 1 by omega, h]
      exact ⟨mc, r, s, hle, hag⟩
    cases hb : E.B (k + d) with
    | false => exact same (K.can.no _ _ hi hb).2
    | true =>
      have he := K.can.yes _ _ hi hb
      cases hkp : kindOf E.P (E.O (k + d)) with
      | pure =>
        unfold evOp at he; rw [hkp] at he
        simp only [Option.map_eq_some_iff, Prod.mk.injEq] at he
        obtain ⟨_, _, _, h⟩ := he
        exact same h.symm
      | read =>
        unfold evOp at he; rw [hkp] at he
        simp only [Option.map_eq_some_iff, Prod.mk.injEq] at he
        obtain ⟨_, _, _, h⟩ := he
        exact same h.symm
      | eff =>
        exfalso
        rcases K.look.pair (k + d) q _ j (by omega) hi hj with h1 | ⟨_, h2⟩
        · have := closed_bit I.closed j (E.O q) (K.can.op q j hj) hready _ h1
          have := (I.effs _ _ hi hkp).1 this
          omega
        · exact h2 ⟨by rw [K.can.kind hj]; exact hk, .inl (by rw [K.can.kind hi]; exact hkp)⟩
      | new =>
        have hlist : listed.getD E.L[k + d] false = true := by
          rcases K.look.pair (k + d) q _ j (by omega) hi hj with h1 | ⟨_, h2⟩
          · exact closed_bit I.closed j (E.O q) (K.can.op q j hj) hready _ h1
          · exact absurd ⟨by rw [K.can.kind hj]; exact hk, .inr (by rw [K.can.kind hi]; exact hkp)⟩ h2
        obtain ⟨ob, mk, c, ob', e1, e2, e3, e4, e5, e6, e7⟩ := I.early (k + d) ⟨by omega, _, hi, hkp, hb, hlist⟩
        obtain ⟨ob2, mk2, f1, f2, f3⟩ := K.new hi hkp hb
        rw [e1] at f1; cases f1
        obtain ⟨mcan, acan, wcan, c1, c2, _⟩ := K.sim (k + d) (Nat.le_of_lt hp)
        obtain ⟨obc, mkc, _, hobc, _⟩ := evNew_sound c1 e1
        have hagree : ∀ b, mcan b ≠ none → mc b = mp b := fun b hbn => by
          have : b < (E.S (k + d)).h.next := by
            rcases Nat.lt_or_ge b (E.S (k + d)).h.next with h | h
            · exact h
            · exact absurd (c2.frs b h).2 hbn
          exact (hag b this).symm
        have hobm : ObRel mc ob ob' := by
          rcases e4 with ⟨cs, cs', el, g1, g2, g3⟩ | g
          · rcases hobc with ⟨cs2, cs2', el2, k1, k2, k3⟩ | ⟨k1, k2⟩
            · rw [g1] at k1; cases k1
              exact .inl ⟨cs, cs', el, g1, g2, k3.swap g3 hagree⟩
            · rw [g1] at k1; cases k1
          · exact .inr g
        have hunm : ∀ b L', mc b = some L' → L'.blk ≠ c := fun b L' hb' hc => by
          have := e6 b L' (hle _ _ hb') hc
          have h2 := (r.frs b (by omega)).2
          rw [h2] at hb'; cases hb'
        refine ⟨mc.upd (E.S (k + d)).h.next ⟨c, 0⟩, ?_, ?_, ?_, ?_⟩
        · rw [show k + (d + 1) = k + d + 1 by omega, f3]; exact r.commit e3 hunm hobm
        · rw [show k + (d + 1) = k + d + 1 by omega, f3]; exact Step.commit r s ob e7
        · intro b L' hb'
          unfold Mp.upd at hb'
          split at hb'
          · rename_i hbn; subst hbn; cases hb'; exact e2
          · exact hle _ _ hb'
        · intro b hb'
          rw [show k + (d + 1) = k + d + 1 by omega, f3, Hp.next_push] at hb'
          unfold Mp.upd
          split
          · rename_i hbn; subst hbn; exact e2
          · exact hag b (by omega)
theorem Env.Inv.moved (K : E.OK) {listed : Array Bool} {a : Act} {w : World} {m mp : Mp} {k : Nat} (I : E.Inv listed a w m mp k) {q j : Nat} (hj : E.L[q]? = some j) (hun : listed.getD j false = false)
    (hready : ∀ e ∈ (E.O q).after, Region.binds .any e = true → listed.getD e.on false = true) (hk : kindOf E.P (E.O q) = .eff) (hkq : k ≤ q) {mc : Mp} (r : Rep E.P mc (E.S q).h w) (s : Step E.m0 E.h0 E.w0 mc (E.S q).h w) (hle : mc.le mp)
    (hag : ∀ b, b < (E.S q).h.next → mp b = mc b) {m' : Mp} {w' : World} (r' : Rep E.P m' (E.S (q + 1)).h w') (s' : Step mc (E.S q).h w m' (E.S (q + 1)).h w') {v' : Value} (hv : VRel m' (E.V q) v') :
    E.Inv (listed.setIfInBounds j true) (a.put (E.O q).dst v') w' m' (fun b => if b < (E.S (q + 1)).h.next then m' b else mp b) (q + 1) := by
  obtain ⟨h1, h2, h3, h4⟩ := I.listed_set K hj hready
  have hq := lt_of_get hj
  have hnx := s'.next
  have hle1 : m'.le (fun b => if b < (E.S (q + 1)).h.next then m' b else mp b) := fun b L' hb => by
    have : b < (E.S (q + 1)).h.next := by
      rcases Nat.lt_or_ge b (E.S (q + 1)).h.next with h | h
      · exact h
      · have := (r'.frs b h).2; rw [this] at hb; cases hb
    simp only [if_pos this]; exact hb
  -- a number of the old map that lies in no committed heap
  have hfar : ∀ b L', mp b = some L' → (E.S q).h.next ≤ b → ∃ p, E.Early listed k p ∧ q < p ∧ b = (E.S p).h.next ∧ (E.S (q + 1)).h.next ≤ b := by
    intro b L' hb hge
    rcases I.mp2 b L' hb with g | ⟨p, g1, g2⟩
    · have := (I.rep.frs b (Nat.le_trans (K.mono' hkq (Nat.le_of_lt hq)) hge)).2
      rw [this] at g; cases g
    · obtain ⟨e1, i, e2, e3, e4, e5⟩ := g1
      have hqp : q < p := by
        rcases Nat.lt_trichotomy p q with h | h | h
        · have := K.apart e2 hj e3 e4 h; omega
        · subst h; rw [hk] at e3; cases e3
        · exact h
      refine ⟨p, ⟨e1, i, e2, e3, e4, e5⟩, hqp, g2, ?_⟩
      rw [g2]; exact K.mono' (by omega) (Nat.le_of_lt (lt_of_get e2))
  have hle2 : mp.le (fun b => if b < (E.S (q + 1)).h.next then m' b else mp b) := fun b L' hb => by
    by_cases hlt : b < (E.S q).h.next
    · have : b < (E.S (q + 1)).h.next := by omega
      simp only [if_pos this]
      rw [hag b hlt] at hb
      exact s'.le _ _ hb
    · obtain ⟨p, _, _, _, g⟩ := hfar b L' hb (by omega)
      simp only [if_neg (show ¬ b < (E.S (q + 1)).h.next by omega)]; exact hb
  have hup : ∀ i, listed.getD i false = true → (listed.setIfInBounds j true).getD i false = true := fun i hi => by
    by_cases hij : i = j
    · subst hij; exact h3
    · rw [h4 i hij]; exact hi
  refine ⟨h1, h2, by omega, fun p i hi hki => ?_, .inr ⟨q, j, rfl, hj, hk⟩, fun p i hp hi hki => ?_, r', s.trans s', hle1, fun b L' hb => ?_, fun p hp => ?_, I.frel_put K hj hun hle2 (hv.mono hle1), ?_, ?_⟩
  · by_cases hij : i = j
    · subst hij
      have := K.pos hi hj; subst this
      exact ⟨fun _ => by omega, fun _ => h3⟩
    · rw [h4 i hij, I.effs p i hi hki]
      have hpq : p ≠ q := fun h => hij (by subst h; rw [hi] at hj; cases hj; rfl)
      constructor
      · intro h; omega
      · intro h
        rcases K.look.pair p q i j (by omega) hi hj with g1 | ⟨_, g2⟩
        · exact (I.effs p i hi hki).1 (closed_bit I.closed j (E.O q) (K.can.op q j hj) hready _ g1)
        · exact absurd ⟨by rw [K.can.kind hj]; exact hk, .inl (by rw [K.can.kind hi]; exact hki)⟩ g2
  · by_cases hpq : p = q
    · subst hpq; rw [hk] at hki; cases hki
    · rcases K.look.pair p q i j (by omega) hi hj with g1 | ⟨_, g2⟩
      · exact hup _ (closed_bit I.closed j (E.O q) (K.can.op q j hj) hready _ g1)
      · exact absurd ⟨by rw [K.can.kind hj]; exact hk, .inr (by rw [K.can.kind hi]; exact hki)⟩ g2
  · replace hb : (if b < (E.S (q + 1)).h.next then m' b else mp b) = some L' := hb
    split at hb
    · exact .inl hb
    · rename_i hge
      obtain ⟨p, ⟨e1, i, e2, e3, e4, e5⟩, g2, g3, _⟩ := hfar b L' hb (by omega)
      exact .inr ⟨p, ⟨by omega, i, e2, e3, e4, hup _ e5⟩, g3⟩
  · obtain ⟨g1, i, g2, g3, g4, g5⟩ := hp
    have hij : i ≠ j := fun h => by subst h; have := K.pos g2 hj; omega
    rw [h4 i hij] at g5
    obtain ⟨ob1, mk1, c, ob1', e1, e2, e3, e4, e5, e6, e7⟩ := I.early p ⟨by omega, i, g2, g3, g4, g5⟩
    have hc := (Array.getElem?_eq_some_iff.1 e3).1
    have hpn : (E.S (q + 1)).h.next ≤ (E.S p).h.next := K.mono' (by omega) (Nat.le_of_lt (lt_of_get g2))
    have hmcc : ∀ b L', mc b = some L' → L'.blk ≠ c := fun b L' hb he => by
      have h5 := e6 b L' (hle _ _ hb) he
      have h6 := (r.frs b (by omega)).2
      rw [h6] at hb; cases hb
    have hm'c : ∀ b L', m' b = some L' → L'.blk ≠ c := fun b L' hb he => by
      obtain ⟨b0, L0, k1, k2⟩ := s'.old b L' hb (by omega)
      exact hmcc b0 L0 k1 (by omega)
    refine ⟨ob1, mk1, c, ob1', e1, hle2 _ _ e2, ?_, e4.mono hle2, hm'c, fun b L' hb he => ?_, e7⟩
    · rw [s'.same c hc fun b L' _ hb => hmcc b L' hb]; exact e3
    · replace hb : (if b < (E.S (q + 1)).h.next then m' b else mp b) = some L' := hb
      split at hb
      · exact absurd he (hm'c b L' hb)
      · exact e6 b L' hb he
  · cases hd : (E.O q).dst <;> simp [Act.put, I.tsz]
  · rw [put_defers]; exact I.df
end
section
variable {E : Env}
theorem Env.Inv.read_ok (K : E.OK) {listed : Array Bool} {a : Act} {w : World} {m mp : Mp} {k : Nat} (I : E.Inv listed a w m mp k) {q j : Nat} (hj : E.L[q]? = some j) (hun : listed.getD j false = false)
    (hready : ∀ e ∈ (E.O q).after, Region.binds .any e = true → listed.getD e.on false = true) (hk : kindOf E.P (E.O q) = .read) (hb : E.B q = true) :
    evReadOrPure E.P (E.S q).fr (E.O q) (E.S k).h = some (E.V q) := by
  have hq := lt_of_get hj
  -- the read stands in the list of reads
  have hrs : (j, (E.S q).fr, E.V q) ∈ (E.S E.L.length).rs := by
    have h1 : (j, (E.S q).fr, E.V q) ∈ (E.S (q + 1)).rs := by rw [K.can.read q j hj hk hb]; simp
    have := K.can.rs_mono (E.L.length - (q + 1)) (q + 1) (by omega) _ h1
    rwa [show q + 1 + (E.L.length - (q + 1)) = E.L.length by omega] at this
  -- the boundary stands in the list of boundaries
  obtain ⟨done, hbs, hdone⟩ : ∃ done, (done, (E.S k).h) ∈ (E.S E.L.length).bs ∧ ∀ e, e ∈ done ↔ ∃ p, p < k ∧ E.L[p]? = some e ∧ kindOf E.P (E.O p) = .eff := by
    rcases I.kb with hk0 | ⟨p, i, hkp, hi, hki⟩
    · subst hk0
      refine ⟨[], ?_, fun e => by simp⟩
      rw [K.s0]
      have := K.can.bs_mono E.L.length 0 (by omega) _ K.bs
      rwa [Nat.zero_add] at this
    · subst hkp
      have hp := lt_of_get hi
      obtain ⟨g1, g2, _⟩ := K.can.eff p i hi hki
      refine ⟨i :: (E.S p).done, ?_, fun e => ?_⟩
      · have h1 : (i :: (E.S p).done, (E.S (p + 1)).h) ∈ (E.S (p + 1)).bs := by rw [g2]; simp
        have := K.can.bs_mono (E.L.length - (p + 1)) (p + 1) (by omega) _ h1
        rwa [show p + 1 + (E.L.length - (p + 1)) = E.L.length by omega] at this
      · rw [← g1]; exact K.can.done K.done (p + 1) (by omega) e
  have hr := K.reads
  unfold readsOk at hr
  rw [List.all_eq_true] at hr
  have h1 := hr _ hrs
  simp only [List.all_eq_true] at h1
  have h2 := h1 _ hbs
  simp only [Bool.or_eq_true, Bool.not_eq_true'] at h2
  have hadm : adm (Region.before E.ops) ((List.range E.ops.size).filter fun j => kindAt E.P E.ops j == .eff) j done = true := by
    unfold adm
    simp only [Bool.and_eq_true, List.all_eq_true, Bool.or_eq_true, Bool.not_eq_true']
    refine ⟨fun e he => ?_, fun e he => ?_⟩
    · cases hbit : bit (Region.before E.ops) j e with
      | false => exact .inl rfl
      | true =>
        right
        simp only [List.mem_filter, List.mem_range, beq_iff_eq] at he
        have hl := closed_bit I.closed j (E.O q) (K.can.op q j hj) hready e hbit
        obtain ⟨p, hp⟩ := List.mem_iff_getElem?.1 (K.look.mem e he.1)
        have hke : kindOf E.P (E.O p) = .eff := by rw [← K.can.kind hp]; exact he.2
        have := (hdone e).2 ⟨p, (I.effs p e hp hke).1 hl, hp, hke⟩
        simpa using this
    · obtain ⟨p, g1, g2, g3⟩ := (hdone e).1 he
      have hl := (I.effs p e g2 g3).2 g1
      cases hbit : bit (Region.before E.ops) e j with
      | false => rfl
      | true =>
        have : listed.getD j false = true := closed_bit I.closed e (E.O p) (K.can.op p e g2) (fun e' he' hb' => I.closed e _ (K.can.op p e g2) hl e' he' hb') j hbit
        rw [hun] at this; cases this
  rcases h2 with h2 | h2
  · rw [hadm] at h2; cases h2
  · rw [K.can.op q j hj] at h2
    simp only at h2
    split at h2
    · rename_i u hu
      rw [hu, veqF_sound _ _ _ h2]
    · cases h2
theorem Env.Inv.one (K : E.OK) {listed : Array Bool} {a : Act} {w : World} {m mp : Mp} {k : Nat} (I : E.Inv listed a w m mp k) {j : Nat} (hun : listed.getD j false = false) {q : Nat} (hj : E.L[q]? = some j)
    (hready : ∀ e ∈ (E.O q).after, Region.binds .any e = true → listed.getD e.on false = true) {next : Act → World → Prop} {Q : Exit → Act → World → Prop}
    (hn : ∀ a' w' m' mp' k', E.Inv (listed.setIfInBounds j true) a' w' m' mp' k' → next a' w') : wpOp E.P E.ops Q j next a w := by
  have hq := lt_of_get hj
  unfold wpOp
  rw [K.can.op q j hj]
  simp only
  obtain ⟨g, hg, hgf⟩ := I.at_hand K hj hun hready
  have hops : ∀ x ∈ (E.O q).op.operands, ev1 g x = ev1 (E.S q).fr x := fun x hx => ev1_cut hg fun t ht => by
    subst ht
    unfold looks
    exact List.mem_append_left _ (tmpsIn_mem (by simpa using hx))
  obtain ⟨cg1, cg2, cg3, cg4⟩ := evOp_congr (P := E.P) (call := E.call) hops
  have hw : evWanted E.ops g (E.O q) = some (E.B q) := by
    have h0 := K.can.wn q j hj
    unfold evWanted at h0 ⊢
    split at h0
    · exact h0
    · rename_i i want hgu
      cases hd : (E.ops[i]?).bind (·.dst) with
      | none => rw [hd] at h0; simp at h0
      | some d =>
        rw [hd] at h0
        simp only [Option.bind_some] at h0 ⊢
        rw [hg d, if_pos (by unfold looks; rw [hgu]; simp [hd])]
        exact h0
  rw [evWanted_sound hgf hw]
  -- an effect, carried out or not
  have effect : kindOf E.P (E.O q) = .eff → ∃ mc : Mp, k ≤ q ∧ Rep E.P mc (E.S q).h w ∧ Step E.m0 E.h0 E.w0 mc (E.S q).h w ∧ mc.le mp ∧ (∀ b, b < (E.S q).h.next → mp b = mc b) := fun hk => by
    obtain ⟨h1, h2⟩ := I.commit K hj hun hready hk
    obtain ⟨mc, c1, c2, c3, c4⟩ := h2 (q - k) (by omega)
    rw [show k + (q - k) = q by omega] at c1 c2 c4
    exact ⟨mc, h1, c1, c2, c3, c4⟩
  cases hb : E.B q with
  | false =>
    simp only [Bool.false_eq_true, if_false]
    obtain ⟨v1, v2⟩ := K.can.no q j hj hb
    by_cases hk : kindOf E.P (E.O q) = .eff
    · obtain ⟨mc, h1, c1, c2, c3, c4⟩ := effect hk
      have hst : Step mc (E.S q).h w mc (E.S (q + 1)).h w := by rw [v2]; exact Step.refl _ _ _
      exact hn _ _ _ _ _ (I.moved K hj hun hready hk h1 c1 c2 c3 c4 (by rw [v2]; exact c1) hst (v' := undef) (by rw [v1]; exact undef_rel _))
    · exact hn _ _ _ _ _ (I.quiet K hj hun hready hk (fun _ => hb) (v' := undef) (by rw [v1]; exact undef_rel _))
  | true =>
    simp only [if_true]
    left
    have he := K.can.yes q j hj hb
    cases hk : kindOf E.P (E.O q) with
    | pure =>
      unfold evOp at he; rw [hk] at he
      simp only [Option.map_eq_some_iff, Prod.mk.injEq] at he
      obtain ⟨u, hu, hu2, _⟩ := he
      rw [← cg1] at hu
      obtain ⟨v', h1, h2⟩ := evPure_sound hgf hu
      refine wp_value (h1 w) (hn _ _ _ _ _ (I.quiet K hj hun hready (by rw [hk]; simp) (fun h => by rw [hk] at h; cases h) (v' := v') (by rw [← hu2]; exact h2)))
    | read =>
      have hr := I.read_ok K hj hun hready hk hb
      -- a heap with room for the numbers of all blocks
      have hr' : evReadOrPure E.P g (E.O q) { (E.S k).h with next := (E.S E.L.length).h.next + (E.S k).h.next } = some (E.V q) := by
        have e1 : evReadOrPure E.P g (E.O q) (E.S k).h = some (E.V q) := by
          unfold evReadOrPure at hr ⊢
          rw [cg2, cg1]; exact hr
        exact e1
      have hrep : Rep E.P mp { (E.S k).h with next := (E.S E.L.length).h.next + (E.S k).h.next } w := by
        refine ⟨fun b L' hb' => ?_, fun b hb' => ?_, fun b cs e st h1 h2 => ?_, fun b cs e base olds h1 => ?_, fun b es ck h1 => ?_, fun b b' L' L'' h1 h2 h3 h4 h5 => ?_⟩
        · rcases I.mp2 b L' hb' with g0 | ⟨p, g1, g2⟩
          · exact I.rep.rng b L' g0
          · obtain ⟨_, _, c, _, _, e2, e3, _⟩ := I.early p g1
            rw [g2, e2] at hb'; cases hb'
            exact (Array.getElem?_eq_some_iff.1 e3).1
        · simp only at hb'
          have h0 := I.rep.frs b (by omega)
          refine ⟨h0.1, ?_⟩
          cases hmp : mp b with
          | none => rfl
          | some L' =>
            exfalso
            rcases I.mp2 b L' hmp with g0 | ⟨p, ⟨g1, i, g2, g3, g4, g5⟩, g6⟩
            · rw [h0.2] at g0; cases g0
            · have e1 := K.new_next g2 g3 g4
              have e2 := K.mono' (p := p + 1) (q := E.L.length) (lt_of_get g2) (Nat.le_refl _)
              omega
        · obtain ⟨L', cs', fz, k1, k2, k3⟩ := I.rep.row b cs e st h1 h2
          exact ⟨L', cs', fz, I.le _ _ k1, k2, k3.mono I.le⟩
        · obtain ⟨L', cs', n, k1, k2, k3⟩ := I.rep.rw b cs e base olds h1
          exact ⟨L', cs', n, I.le _ _ k1, k2, k3⟩
        · obtain ⟨L', es', k1, k2, k3⟩ := I.rep.map b es ck h1
          exact ⟨L', es', I.le _ _ k1, k2, k3.mono I.le⟩
        · have hmb : m b = some L' := by
            rcases I.mp2 b L' h3 with g0 | ⟨p, ⟨g1, i, g2, _⟩, g6⟩
            · exact g0
            · exfalso
              have e1 := K.mono' g1 (Nat.le_of_lt (lt_of_get g2))
              have e2 := (I.rep.frs b (by omega)).1
              have : ¬ live (E.S k).h b := by unfold live; rw [e2]; simp [liveO]
              exact this h1
          rcases I.mp2 b' L'' h4 with g0 | ⟨p, g1, g2⟩
          · exact I.rep.sep b b' L' L'' h1 h2 hmb g0 h5
          · exfalso
            obtain ⟨_, _, c, _, _, e2, _, _, e5, _⟩ := I.early p g1
            rw [g2, e2] at h4; cases h4
            exact e5 b L' hmb h5
      obtain ⟨v', h1, h2⟩ := evReadOrPure_sound hrep hgf hr'
      refine wp_value h1 (hn _ _ _ _ _ (I.quiet K hj hun hready (by rw [hk]; simp) (fun h => by rw [hk] at h; cases h) (v' := v') h2))
    | new =>
      obtain ⟨ob, mk, f1, f2, f3⟩ := K.new hj hk hb
      have f1' := f1
      rw [← cg3] at f1'
      obtain ⟨ob', mk', h1, h2, h3⟩ := evNew_sound hgf f1'
      refine wp_value (h1 w) (hn _ _ _ _ _ (I.fresh K hj hun hready hk hb f1 h2 (v' := mk' w.heap.size) fun m' hm => ?_))
      rw [f2]; exact h3 m' _ _ hm
    | eff =>
      obtain ⟨mc, h1, c1, c2, c3, c4⟩ := effect hk
      unfold evOp at he; rw [hk] at he
      simp only at he
      rw [← cg4] at he
      -- the operands, under the smaller map
      obtain ⟨mcan, acan, wcan, d1, d2, _⟩ := K.sim q (Nat.le_of_lt hq)
      have hagree : ∀ b, mcan b ≠ none → mc b = mp b := fun b hbn => by
        have : b < (E.S q).h.next := by
          rcases Nat.lt_or_ge b (E.S q).h.next with h | h
          · exact h
          · exact absurd (d2.frs b h).2 hbn
        exact (c4 b this).symm
      have hgc : FrRel mc E.nt g a.tmps := by
        refine ⟨hgf.size, fun t v e => ?_⟩
        obtain ⟨v', k1, k2⟩ := hgf.get t v e
        have e' := e
        rw [hg t] at e'
        split at e'
        · obtain ⟨v2, k3, k4⟩ := d1.get t v e'
          exact ⟨v', k1, k4.swap k2 hagree⟩
        · cases e'
      refine evEff_wp K.hcall c1 (K.hI _ _ _ _ _ _ K.ini c2) hgc he fun v' m' w' r' s' hv => ?_
      exact hn _ _ _ _ _ (I.moved K hj hun hready hk h1 c1 c2 c3 c4 r' s' hv)
theorem Env.Inv.end_ (K : E.OK) {listed : Array Bool} {a : Act} {w : World} {m mp : Mp} {k : Nat} (I : E.Inv listed a w m mp k) (hall : ∀ i, i < E.ops.size → listed.getD i false = true) :
    ∃ mf, FrRel mf E.nt (E.S E.L.length).fr a.tmps ∧ a.defers = E.a0.defers ∧ Rep E.P mf (E.S E.L.length).h w ∧ Step E.m0 E.h0 E.w0 mf (E.S E.L.length).h w := by
  have hlist : ∀ p j, E.L[p]? = some j → listed.getD j false = true := fun p j hj => hall j (K.look.lt j (List.mem_of_getElem? hj))
  have key : ∀ d, k + d ≤ E.L.length → ∃ mc : Mp, Rep E.P mc (E.S (k + d)).h w ∧ Step E.m0 E.h0 E.w0 mc (E.S (k + d)).h w ∧ mc.le mp ∧ (∀ b, b < (E.S (k + d)).h.next → mp b = mc b) := by
    intro d
    induction d with
    | zero =>
      intro _
      refine ⟨m, I.rep, I.step, I.le, fun b hb => ?_⟩
      cases hm : m b with
      | some L' => exact I.le _ _ hm
      | none =>
        cases hmp : mp b with
        | none => rfl
        | some L' =>
          exfalso
          rcases I.mp2 b L' hmp with g | ⟨p, ⟨g1, i, g2, _⟩, g6⟩
          · rw [hm] at g; cases g
          · have := K.mono' g1 (Nat.le_of_lt (lt_of_get g2))
            simp at hb; omega
    | succ d ih =>
      intro hd
      obtain ⟨mc, r, s, hle, hag⟩ := ih (by omega)
      have hp : k + d < E.L.length := by omega
      have hi : E.L[k + d]? = some E.L[k + d] := List.getElem?_eq_getElem hp
      have same : (E.S (k + d + 1)).h = (E.S (k + d)).h → ∃ mc : Mp, Rep E.P mc (E.S (k + (d + 1))).h w ∧ Step E.m0 E.h0 E.w0 mc (E.S (k + (d + 1))).h w ∧ mc.le mp ∧ (∀ b, b < (E.S (k + (d + 1))).h.next → mp b = mc b) := by
        intro h
        rw [show k + (d + 1) = k + d + 1 by omega, h]
        exact ⟨mc, r, s, hle, hag⟩
      cases hb : E.B (k + d) with
      | false => exact same (K.can.no _ _ hi hb).2
      | true =>
        have he := K.can.yes _ _ hi hb
        cases hkp : kindOf E.P (E.O (k + d)) with
        | pure =>
          unfold evOp at he; rw [hkp] at he
          simp only [Option.map_eq_some_iff, Prod.mk.injEq] at he
          obtain ⟨_, _, _, h⟩ := he
          exact same h.symm
        | read =>
          unfold evOp at he; rw [hkp] at he
          simp only [Option.map_eq_some_iff, Prod.mk.injEq] at he
          obtain ⟨_, _, _, h⟩ := he
          exact same h.symm
        | eff =>
          exfalso
          have := (I.effs _ _ hi hkp).1 (hlist _ _ hi)
          omega
        | new =>
          obtain ⟨ob, mk, c, ob', e1, e2, e3, e4, e5, e6, e7⟩ := I.early (k + d) ⟨by omega, _, hi, hkp, hb, hlist _ _ hi⟩
          obtain ⟨ob2, mk2, f1, f2, f3⟩ := K.new hi hkp hb
          rw [e1] at f1; cases f1
          obtain ⟨mcan, acan, wcan, c1, c2, _⟩ := K.sim (k + d) (Nat.le_of_lt hp)
          obtain ⟨obc, mkc, _, hobc, _⟩ := evNew_sound c1 e1
          have hagree : ∀ b, mcan b ≠ none → mc b = mp b := fun b hbn => by
            have : b < (E.S (k + d)).h.next := by
              rcases Nat.lt_or_ge b (E.S (k + d)).h.next with h | h
              · exact h
              · exact absurd (c2.frs b h).2 hbn
            exact (hag b this).symm
          have hobm : ObRel mc ob ob' := by
            rcases e4 with ⟨cs, cs', el, g1, g2, g3⟩ | g
            · rcases hobc with ⟨cs2, cs2', el2, k1, k2, k3⟩ | ⟨k1, k2⟩
              · rw [g1] at k1; cases k1
                exact .inl ⟨cs, cs', el, g1, g2, k3.swap g3 hagree⟩
              · rw [g1] at k1; cases k1
            · exact .inr g
          have hunm : ∀ b L', mc b = some L' → L'.blk ≠ c := fun b L' hb' hc => by
            have := e6 b L' (hle _ _ hb') hc
            have h2 := (r.frs b (by omega)).2
            rw [h2] at hb'; cases hb'
          refine ⟨mc.upd (E.S (k + d)).h.next ⟨c, 0⟩, ?_, ?_, ?_, ?_⟩
          · rw [show k + (d + 1) = k + d + 1 by omega, f3]; exact r.commit e3 hunm hobm
          · rw [show k + (d + 1) = k + d + 1 by omega, f3]; exact Step.commit r s ob e7
          · intro b L' hb'
            unfold Mp.upd at hb'
            split at hb'
            · rename_i hbn; subst hbn; cases hb'; exact e2
            · exact hle _ _ hb'
          · intro b hb'
            rw [show k + (d + 1) = k + d + 1 by omega, f3, Hp.next_push] at hb'
            unfold Mp.upd
            split
            · rename_i hbn; subst hbn; exact e2
            · exact hag b (by omega)
  obtain ⟨mf, r, s, hle, hag⟩ := key (E.L.length - k) (by have := I.hK; omega)
  rw [show k + (E.L.length - k) = E.L.length by have := I.hK; omega] at r s hag
  obtain ⟨mcan, acan, wcan, d1, d2, _⟩ := K.sim E.L.length (Nat.le_refl _)
  refine ⟨mf, ⟨I.tsz, fun t v e => ?_⟩, I.df, r, s⟩
  have hex := K.can.exp E.L.length (Nat.le_refl _) t v e
  obtain ⟨v', h1, h2⟩ := I.frel t v (by
    have ag : ∀ p, p < E.L.length → ∃ j, E.L[p]? = some j ∧ listed.getD j false = true := fun p hp => ⟨_, List.getElem?_eq_getElem hp, hlist p _ (List.getElem?_eq_getElem hp)⟩
    rcases hex with ⟨p, g1, g2, g3, g4, g5⟩ | ⟨g1, g2⟩
    · exact .inl ⟨p, g1, ag p g1, g3, g4, fun q' k1 k2 _ => g5 q' k1 k2 k2⟩
    · exact .inr ⟨fun p k1 _ => g1 p k1 k1, g2⟩)
  obtain ⟨v2, h3, h4⟩ := d1.get t v e
  refine ⟨v', h1, h4.swap h2 fun b hbn => ?_⟩
  have : b < (E.S E.L.length).h.next := by
    rcases Nat.lt_or_ge b (E.S E.L.length).h.next with h | h
    · exact h
    · exact absurd (d2.frs b h).2 hbn
  exact (hag b this).symm
theorem wpAny_of_inv (K : E.OK) {Q : Exit → Act → World → Prop}
    (hQ : ∀ a w mf, FrRel mf E.nt (E.S E.L.length).fr a.tmps → a.defers = E.a0.defers → Rep E.P mf (E.S E.L.length).h w → Step E.m0 E.h0 E.w0 mf (E.S E.L.length).h w → Q .normal a w) :
    ∀ (fuel : Nat) (listed : Array Bool) (a : Act) (w : World) (m mp : Mp) (k : Nat), cnt (fun i => listed.getD i false) E.ops.size = fuel → E.Inv listed a w m mp k → wpAny E.P .any E.ops Q fuel listed a w := by
  intro fuel
  -- where nothing is ready, all have been carried out
  have stuck : ∀ (listed : Array Bool), listed.size = E.ops.size → Region.ready .any E.ops listed = [] → ∀ i, i < E.ops.size → listed.getD i false = true := by
    intro listed hsz hr i
    induction i using Nat.strongRecOn with
    | _ i ih =>
      intro hi
      cases hl : listed.getD i false with
      | true => rfl
      | false =>
        exfalso
        have : i ∈ Region.ready .any E.ops listed := mem_ready.2 ⟨getD_in' (by omega) hl, E.ops[i], Array.getElem?_eq_getElem hi, fun e he hb => ?_⟩
        · rw [hr] at this; cases this
        · have hlt := K.look.back i _ (Array.getElem?_eq_getElem hi) e he hb
          exact ih e.on hlt (by omega)
  induction fuel with
  | zero =>
    intro listed a w m mp k hc I
    have hall := cnt_zero hc
    refine ⟨?_, ?_⟩
    · cases hr : Region.ready .any E.ops listed with
      | nil => rfl
      | cons i l =>
        exfalso
        have hm : i ∈ Region.ready .any E.ops listed := by rw [hr]; simp
        obtain ⟨h1, o, h2, _⟩ := mem_ready.1 hm
        have hi : i < E.ops.size := (Array.getElem?_eq_some_iff.1 h2).1
        have := hall i hi
        have hs : i < listed.size := by rw [I.sz]; exact hi
        simp [Array.getD_eq_getD_getElem?, hs] at h1 this
        rw [h1] at this; cases this
    · obtain ⟨mf, h1, h2, h3, h4⟩ := I.end_ K hall
      exact hQ a w mf h1 h2 h3 h4
  | succ fuel ih =>
    intro listed a w m mp k hc I
    refine ⟨fun hr => ?_, fun i hi => ?_⟩
    · obtain ⟨mf, h1, h2, h3, h4⟩ := I.end_ K (stuck listed I.sz hr)
      exact hQ a w mf h1 h2 h3 h4
    · obtain ⟨h1, o, h2, h3⟩ := mem_ready.1 hi
      have hin : i < E.ops.size := (Array.getElem?_eq_some_iff.1 h2).1
      have hs : i < listed.size := by rw [I.sz]; exact hin
      have hun : listed.getD i false = false := by simpa [Array.getD_eq_getD_getElem?, hs] using h1
      obtain ⟨q, hq⟩ := List.mem_iff_getElem?.1 (K.look.mem i hin)
      have ho : o = E.O q := by have := K.can.op q i hq; rw [h2] at this; cases this; rfl
      subst ho
      refine I.one K hun hq h3 fun a' w' m' mp' k' I' => ih _ a' w' m' mp' k' ?_ I'
      have := cnt_set (D := fun i => listed.getD i false) (D' := fun k => (listed.setIfInBounds i true).getD k false) (i := i) hun (by simp [Array.getD_eq_getD_getElem?, hs]) (fun k hk => by
        simp only [Array.getD_eq_getD_getElem?]; rw [Array.getElem?_setIfInBounds_ne (by omega)]) hin
      omega
  where
  getD_in' {listed : Array Bool} {i : Nat} (hi : i < listed.size) (h : listed.getD i false = false) : listed.getD i true = false := by
    simp [hi] at h ⊢; exact h
end
theorem getD_replicate_false (m j : Nat) : (Array.replicate m false).getD j false = false := by
  rcases Nat.lt_or_ge j m with h | h
  · simp [h]
  · simp [h]
theorem evDraw_ok {P : Program} (hmix : P.follows .mixedOrders = true) {I : Inv} (hI : StepClosed I) {call : CallF} (hcall : CallOK P I call) : DrawsOK P I (evDraw P call) (regOk P) := by
  intro id ops fr h fr' h' e hreg m nt a w hd hf r hi Q hQ
  unfold evDraw at e
  split at e
  · rename_i s hs
    cases hr : readsOk P ops ((List.range ops.size).filter fun j => kindAt P ops j == .eff) s with
    | false => rw [hr] at e; simp at e
    | true =>
      rw [hr] at e; simp only [cond_true, Option.some.injEq, Prod.mk.injEq] at e
      obtain ⟨rfl, rfl⟩ := e
      simp only [regOk, Bool.not_true, Bool.false_or] at hreg
      obtain ⟨S, g1, g2, g3⟩ := trc_states hs
      obtain ⟨V, B, O, C⟩ := Can.of g3
      refine wp_region_any hmix ?_
      let E : Env := { P := P, call := call, ops := ops, S := S, V := V, B := B, O := O, nt := nt, m0 := m, h0 := h, w0 := { w with drawn := w.drawn + 1 }, a0 := a, I := I }
      have K : E.OK := ⟨hcall, hI, hI _ _ _ _ _ _ hi (Step.drew m h w), C, Look.of hreg, hd, by show (S 0).h = h; rw [g1], by show FrRel m nt (S 0).fr a.tmps; rw [g1]; exact hf, r.drew, by show (S 0).done = []; rw [g1], by show ([], h) ∈ (S 0).bs; rw [g1]; simp, by show readsOk P ops _ (S (sched P ops).length) = true; rw [g2]; exact hr⟩
      have I : E.Inv (Array.replicate ops.size false) a { w with drawn := w.drawn + 1 } m m 0 := by
        have hno : ∀ i, (Array.replicate ops.size false).getD i false = false := fun i => getD_replicate_false _ _
        refine ⟨by simp [E], fun j o ho hj => ?_, Nat.zero_le _, fun p j hj hk => ?_, .inl rfl, fun p j hp => by omega, by show Rep P m (S 0).h _; rw [g1]; exact r.drew, by show Step m h _ m (S 0).h _; rw [g1]; exact Step.refl _ _ _, Mp.le_refl m, fun b L' hb => .inl hb, fun p hp => ?_, fun t v hex => ?_, hf.size, rfl⟩
        · simp only [hno] at hj; cases hj
        · rw [hno]; simp
        · obtain ⟨_, j, _, _, _, g⟩ := hp; rw [hno] at g; cases g
        · rcases hex with ⟨p, _, ⟨j, _, g⟩, _⟩ | ⟨_, g⟩
          · rw [hno] at g; cases g
          · have g' : fr.get t = some v := by have := g; simp only [E, g1] at this; exact this
            exact hf.get t v g'
      have hcnt : cnt (fun i => (Array.replicate ops.size false).getD i false) ops.size = ops.size := by
        rw [show (fun i => (Array.replicate ops.size false).getD i false) = fun _ => false from funext fun i => getD_replicate_false _ _]
        exact cnt_all _
      refine wpAny_of_inv K (Q := Q) (fun a' w' mf f1 f2 f3 f4 => ?_) ops.size _ a _ m m 0 hcnt I
      have e1 : (S (sched P ops).length).fr = s.fr := by rw [g2]
      have e2 : (S (sched P ops).length).h = s.h := by rw [g2]
      have f1' : FrRel mf nt (S (sched P ops).length).fr a'.tmps := f1
      have f3' : Rep P mf (S (sched P ops).length).h w' := f3
      have f4' : Step m h { w with drawn := w.drawn + 1 } mf (S (sched P ops).length).h w' := f4
      rw [e1] at f1'
      rw [e2] at f3' f4'
      exact hQ a' mf w' f1' f2 f3' ((Step.drew m h w).trans f4')
  · cases e
theorem evCall_sound {C : Ctx} {I : Inv} (hI : StepClosed I) (hC : CtxOK C I (regOk C.P)) (hmix : C.P.follows .mixedOrders = true) (n : Nat) : CallOK C.P I (evCall C n) :=
  evCall_ok hI hC (fun _ h => evDraw_ok hmix hI h) n
end Go.Ev
namespace Go.Ev
open Go Go.RowKit
set_option linter.unusedSimpArgs false
set_option linter.unusedVariables false
abbrev Sum := List Value → Hp → Option (Value × Hp)
def SumOK (P : Program) (I : Inv) (f : FuncId) (s : Sum) : Prop := ∀ args h v h', s args h = some (v, h') → ∀ m w args', Rep P m h w → I m h w → VL m args args' →
  Calls P f args'.toArray w fun e w' => ∃ v' m', e = .returned v' ∧ Rep P m' h' w' ∧ Step m h w m' h' w' ∧ VRel m' v v'
theorem Rep.below {P : Program} {m : Mp} {h : Hp} {w w' : World} (r : Rep P m h w) (b : Below w.heap.size w w') : Rep P m h w' ∧ Step m h w m h w' := by
  have hold : ∀ c : Nat, ∀ o, w.heap[c]? = some o → w'.heap[c]? = some o := fun c o e => by
    have : c < w.heap.size := (Array.getElem?_eq_some_iff.1 e).1
    rw [b.block c this]; exact e
  refine ⟨⟨fun x L e => Nat.lt_of_lt_of_le (r.rng x L e) b.size, r.frs, fun x cs e st hb hd => ?_, fun x cs e base olds hb => ?_, fun x es ck hb => ?_, r.sep⟩,
    ⟨Mp.le_refl m, Nat.le_refl _, b.size, fun c hc _ => b.block c hc, fun x L hl hm _ => ⟨x, L, hl, hm, rfl⟩, fun x L hm _ => ⟨x, L, hm, rfl⟩, b.os, b.tape, b.output⟩⟩
  · obtain ⟨L, cs', fz, h1, h2, h3⟩ := r.row x cs e st hb hd; exact ⟨L, cs', fz, h1, hold _ _ h2, h3⟩
  · obtain ⟨L, cs', n, h1, h2, h3⟩ := r.rw x cs e base olds hb; exact ⟨L, cs', n, h1, hold _ _ h2, h3⟩
  · obtain ⟨L, es', h1, h2, h3⟩ := r.map x es ck hb; exact ⟨L, es', h1, hold _ _ h2, h3⟩
theorem VL.two {m : Mp} {x y : Value} {l : List Value} (h : VL m [x, y] l) : ∃ x' y', l = [x', y'] ∧ VRel m x x' ∧ VRel m y y' := by
  cases h with
  | cons h1 t => cases t with
    | cons h2 t => cases t; exact ⟨_, _, rfl, h1, h2⟩
def sumSplit (T : TypeId) : Sum
  | [.string s, .string sep], h => bif decide (s.size < 4294967281) && decide (1 ≤ sep.size) then
      some (.slice (some ⟨h.next, 0, none⟩) (Lib.countB s sep + 1) (2 * (Lib.countB s sep + 1)), h.push (.row ((Lib.splitB sep 0 (Lib.countB s sep) s).map Value.string) T (.rw 0 [])))
    else none
  | _, _ => none
theorem strings_rel {m : Mp} : ∀ l : List ByteArray, VL m (l.map Value.string) (l.map Value.string)
  | [] => .nil
  | _ :: l => .cons (.string _) (strings_rel l)
theorem sumSplit_ok {P : Program} {I : Inv} {f : FuncId} {T : TypeId} (hI : ∀ m h w, I m h w → ∃ mx, w.cell? ⟨0, 0, none⟩ = some (.int .i64 mx))
    (H : ∀ (s sep : ByteArray) (m : Int) (w : World), s.size < 4294967281 → w.cell? ⟨0, 0, none⟩ = some (.int .i64 m) → 1 ≤ sep.size →
      Calls P f #[.string s, .string sep] w fun e w' => e = .returned (.slice (some ⟨w.heap.size, 0, none⟩) (Lib.countB s sep + 1) (Lib.countB s sep + 1)) ∧ w' = w.alloc (.cells ((Lib.splitB sep 0 (Lib.countB s sep) s).map Value.string).toArray T)) :
    SumOK P I f (sumSplit T) := by
  intro args h v h' e m w args' r hi hv
  unfold sumSplit at e
  split at e
  · rename_i s sep
    cases hd : (decide (s.size < 4294967281) && decide (1 ≤ sep.size)) with
    | false => rw [hd] at e; simp at e
    | true =>
      rw [hd] at e; simp only [cond_true, Option.some.injEq, Prod.mk.injEq] at e
      simp only [Bool.and_eq_true, decide_eq_true_eq] at hd
      obtain ⟨rfl, rfl⟩ := e
      obtain ⟨x', y', rfl, h1, h2⟩ := hv.two
      cases h1; cases h2
      obtain ⟨mx, hmx⟩ := hI m h w hi
      refine (H s sep mx w hd.1 hmx hd.2).mono fun e w' he => ?_
      obtain ⟨rfl, rfl⟩ := he
      have hob : ObRel m (.row ((Lib.splitB sep 0 (Lib.countB s sep) s).map Value.string) T (.rw 0 [])) (.cells ((Lib.splitB sep 0 (Lib.countB s sep) s).map Value.string).toArray T (0, 0)) := .inl ⟨_, _, _, rfl, rfl, by simpa using strings_rel _⟩
      have hp := Rep.push r (w := w) rfl (x := 0) hob.hob
      have hst := Step.push (w := w) r (.row ((Lib.splitB sep 0 (Lib.countB s sep) s).map Value.string) T (.rw 0 [])) (.cells ((Lib.splitB sep 0 (Lib.countB s sep) s).map Value.string).toArray T (0, 0)) 0
      exact ⟨_, _, rfl, hp, hst, slc_exact (Mp.upd_self _ _ _) (Nat.le_refl _)⟩
  · cases e
def sumCmp (cf : List UInt8 → List UInt8 → Int) : Sum
  | [.string a, .string b], h => some (.int .i64 (cf a.data.toList b.data.toList), h)
  | _, _ => none
theorem sumCmp_ok {P : Program} {I : Inv} {f : FuncId} {cf : List UInt8 → List UInt8 → Int}
    (H : ∀ (a b : ByteArray) (w : World), Calls P f #[.string a, .string b] w fun e w' => e = .returned (.int .i64 (cf a.data.toList b.data.toList)) ∧ w' = w) : SumOK P I f (sumCmp cf) := by
  intro args h v h' e m w args' r hi hv
  unfold sumCmp at e
  split at e
  · rename_i a b
    simp only [Option.some.injEq, Prod.mk.injEq] at e
    obtain ⟨rfl, rfl⟩ := e
    obtain ⟨x', y', rfl, h1, h2⟩ := hv.two
    cases h1; cases h2
    refine (H a b w).mono fun e w' he => ?_
    obtain ⟨rfl, rfl⟩ := he
    exact ⟨_, m, rfl, r, Step.refl _ _ _, .int _ _⟩
  · cases e
end Go.Ev
namespace Go.Ev
open Go Go.RowKit
set_option linter.unusedSimpArgs false
set_option linter.unusedVariables false
def h0 : Hp := { t := .e, next := 0 }
def m0 : Mp := fun _ => none
theorem h0_get (b : Nat) : h0.get b = none := by
  unfold h0 Hp.get; simp [Tr.get_e]
theorem rep0 (P : Program) (w : World) : Rep P m0 h0 w := by
  refine Rep.mk (fun b L e => by cases e) (fun b _ => ⟨h0_get b, rfl⟩) (fun b cs e st hb _ => ?_) (fun b cs e base olds hb => ?_) (fun b es ck hb => ?_) (fun b b' L L' _ _ e => by cases e)
  all_goals rw [h0_get] at hb; cases hb
def From (ma : Mp) (ha : Hp) (w0 : World) : Inv := fun m h w => Step ma ha w0 m h w
theorem From.closed (ma : Mp) (ha : Hp) (w0 : World) : StepClosed (From ma ha w0) := fun _ _ _ _ _ _ a b => a.trans b
theorem Step.below0 {w w' : World} {m : Mp} {h : Hp} (s : Step m0 h0 w m h w') : Below w.heap.size w w' :=
  ⟨s.os, s.tape, s.output, s.size, fun k hk => s.same k hk fun b L _ e => by cases e⟩
theorem From.cell0 {w0 w : World} {m : Mp} {h : Hp} (i : From m0 h0 w0 m h w) {a : Addr} {v : Value} (e : w0.cell? a = some v) : w.cell? a = some v := by
  have hlt : a.block < w0.heap.size := by
    unfold World.cell? at e
    rcases h : w0.heap[a.block]? with _ | o
    · rw [h] at e; simp at e
    · exact (Array.getElem?_eq_some_iff.1 h).1
  have := (Step.below0 i).block a.block hlt
  unfold World.cell? at e ⊢
  rw [this]; exact e
theorem closed_bool {C : Ctx} {w0 : World} (hC : CtxOK C (From m0 h0 w0) (regOk C.P)) (hmix : C.P.follows .mixedOrders = true) {n f : Nat} {b : Bool}
    (e : (evCall C n f [] h0).map (·.1) = some (.bool b)) : Calls C.P f #[] w0 fun e w' => e = .returned (.bool b) ∧ Below w0.heap.size w0 w' := by
  obtain ⟨⟨v, h'⟩, e1, e2⟩ := Option.map_eq_some_iff.1 e
  have e2 : v = .bool b := e2
  subst e2
  obtain ⟨_, k⟩ := evCall_sound (From.closed m0 h0 w0) hC hmix n f [] h0 _ _ e1
  refine (k m0 w0 [] (rep0 _ _) (Step.refl _ _ _) .nil).mono fun e w' he => ?_
  obtain ⟨v', m', rfl, _, hs, hv⟩ := he
  cases hv
  exact ⟨rfl, hs.below0⟩
def okF (P : Program) (f : Nat) : Bool := match P.funcs[f]? with
  | some fn => match fn.body with
    | some c => codeOk fn.ntmps (regOk P) c && !(fn.name == "runtime.NumGoroutine")
    | none => false
  | none => false
theorem okF_spec {P : Program} {f : Nat} (h : okF P f = true) : ∃ fn c, P.funcs[f]? = some fn ∧ (fn.name == "runtime.NumGoroutine") = false ∧ fn.body = some c ∧ codeOk fn.ntmps (regOk P) c = true := by
  unfold okF at h
  split at h
  · rename_i fn hf
    split at h
    · rename_i c hc
      simp only [Bool.and_eq_true, Bool.not_eq_true'] at h
      exact ⟨fn, c, hf, h.2, hc, h.1⟩
    · cases h
  · cases h
theorem mask_part {P : Program} {mask a n : Nat} (h : ((List.range' a n).all fun f => !(mask.testBit f) || okF P f) = true) (f : Nat) (h1 : a ≤ f) (h2 : f < a + n) : (!(mask.testBit f) || okF P f) = true :=
  List.all_eq_true.1 h f (by rw [List.mem_range'_1]; exact ⟨h1, h2⟩)
theorem mask_ok_shift {P : Program} {mask k : Nat} (hk : Nat.shiftRight mask k = 0) (h : ∀ f, f < k → (!(mask.testBit f) || okF P f) = true) (f : Nat) (hf : mask.testBit f = true) :
    ∃ fn c, P.funcs[f]? = some fn ∧ (fn.name == "runtime.NumGoroutine") = false ∧ fn.body = some c ∧ codeOk fn.ntmps (regOk P) c = true := by
  have hlt : f < k := by
    refine Decidable.byContradiction fun hn => ?_
    have h1 : (mask >>> k).testBit (f - k) = mask.testBit (k + (f - k)) := Nat.testBit_shiftRight ..
    have h2 : mask >>> k = 0 := hk
    rw [h2, show k + (f - k) = f by omega, hf] at h1
    simp at h1
  have := h f hlt
  rw [hf] at this
  exact okF_spec (by simpa using this)
end Go.Ev
namespace Go
variable {H : Type} {enc : TypeId × Value → H}
theorem returnsInHanded_of_change_and_shaped {a : Assume} {C : Checked} {os : Os} {f : FuncId} {fn : Func} {s : ChangeSpec} {conds : List PathCond} {apart fresh handsOn again : Bool} {X : World → Array Value → Prop}
    (hX : ∀ (w w' : World) (args : Array Value), w.heap = w'.heap → X w args → X w' args)
    (own : ownKnob C.prog.godebug = none) (started : os.Started) (noInit : C.prog.inits.idxOf? f = none) (hfn : C.prog.funcs[f]? = some fn)
    (witness : ∃ (w : World) (tape : Tape) (i : Input), w.os = os ∧ (w.forCall tape i).Shaped C.prog ∧ i.vars = [] ∧ Input.okWide C.prog (w.forCall tape i) .any w.heap.size f i ∧
      ((s.pre enc C.prog fn conds apart (w.forCall tape i).memory i.args ∧ X (w.forCall tape i).memory i.args) ∧ sizedMet enc C.prog fn (OpenSpec.ofChange s) apart (w.forCall tape i).memory i.args) ∧ a.holds C.prog (lone (Frame.enter C.prog f i.args .normal) [] (w.forCall tape i)))
    (contract : ∀ (W : World) (base : Nat) (args : Array Value) (ds gs : List (DataW H)) (before : List MemPlace),
      (∀ (j : Nat) t v, fn.params[j]? = some t → args[j]? = some v → Value.okWide C.prog W .any base t v) →
      DataW.Whole enc C.prog fn.params.toList s.vars apart W args.toList ds gs before →
      conds.all (PathCond.test C.prog ⟨fn.params.toList, ds, s.plain.varTypes C.prog, gs⟩) = true →
      (DataW.weightsEach C.prog (fn.params.toList ++ s.plain.varTypes C.prog) (ds ++ gs)).all (· ≤ reachBytes) = true → X W args → W.ShapedOpen C.prog →
      Calls C.prog f args W fun e W' => ∃ v, e = .returned v ∧ s.post enc C.prog fn apart fresh handsOn again W args v W') :
    ReturnsInHanded a C os f .any (fun w args => (s.pre enc C.prog fn conds apart w args ∧ X w args) ∧ sizedMet enc C.prog fn (OpenSpec.ofChange s) apart w args) (s.post enc C.prog fn apart fresh handsOn again) := by
  refine returnsInHanded_of_calls own started noInit witness ?_
  intro w tape i _ hsh _ hok hpre _
  obtain ⟨_, _, _, fn', hfn', _, _, _, _, hval⟩ := hok
  have e : fn' = fn := Option.some.inj (hfn'.symm.trans hfn)
  subst e
  obtain ⟨⟨⟨ds, gs, before, hw, hc⟩, hx⟩, hz⟩ := hpre
  have hw' := DataW.Whole.of_heap (w' := w.forCall tape i) (by rfl) hw
  refine (contract (w.forCall tape i) w.heap.size i.args ds gs before hval hw' hc (hz.weights hw) (hX _ _ _ (by rfl) hx) hsh).mono fun e W' ⟨v, he, hp⟩ => ?_
  subst he
  exact ChangeSpec.post_blind hp
theorem band {a b : Bool} (h : a = true) (k : b = true) : (a && b) = true := by rw [h, k]; rfl
theorem joinedFacts_mk {P : Program} {f : FuncId} {fn : Func} {s : ChangeSpec} {c : OpenClaim}
    (h0 : (c.wf (OpenSpec.ofChange s)) = true)
    (h1 : (laidOutB P) = true)
    (h2 : (mapsRowed P) = true)
    (h3 : (fn.params.all (P.readableRec ·)) = true)
    (h4 : (namedTie P c.named s.vars) = true)
    (h5 : (c.stops == []) = true)
    (h6 : (P.stops == []) = true)
    (h7 : (c.knobs == []) = true)
    (h8 : (P.stopKnobs == []) = true)
    (h9 : (c.inPlace == P.inPlace f) = true)
    (h10 : (c.unfollowed == P.unfollowed f) = true)
    (h11 : (c.recurses == P.recurses f) = true)
    (h12 : (c.named == P.varsNamed f) = true)
    (h13 : (c.maps == (fn.params.toList ++ s.plain.varTypes P).any (P.mapsRec ·)) = true)
    (h14 : (c.ifaces == (fn.params.toList ++ s.plain.varTypes P).any (P.ifacesRec ·)) = true)
    (h15 : (c.mapsOut == P.mapsAmong fn.resultTypes.toList) = true)
    (h16 : (c.loops == (fn.params.toList ++ s.plain.varTypes P).any (P.loopsFrom ·)) = true)
    (h17 : (c.wideKeys == (fn.params.toList ++ s.plain.varTypes P ++ fn.resultTypes.toList).any (P.wideKeysFrom ·)) = true)
    (h18 : (s.vars.all (P.varReadable ·)) = true)
    (h19 : (fn.resultTypes.all (fun t => P.readableRec t && decide (t < P.types.size))) = true)
    (h20 : (c.ifacesOut == fn.resultTypes.toList.any (P.ifacesRec ·)) = true)
    (h21 : (c.loopsOut == fn.resultTypes.toList.any (P.loopsFrom ·)) = true)
    (h22 : (c.plainKeys == P.plainKeys) = true)
    (h23 : (c.shortTexts.isNone) = true)
    (h24 : (P.stopsHeard) = true)
    (h25 : (P.mayEnter) = true)
    (h26 : (c.lifted == P.liftsFinal) = true)
    (h27 : (P.make == some c.make) = true)
    (h28 : (c.kinds == (if c.domain.isEmpty then [] else fn.params.toList.map fun t => match P.underlying t with | some (.int k) => some k | _ => none)) = true)
    (h29 : (c.pinned == c.pinnedBy) = true)
    (h30 : (c.veiled == (fn.params.toList ++ s.plain.varTypes P ++ fn.resultTypes.toList).any (P.veiledRec ·)) = true)
    (h31 : (c.veiledFits P fn.params.toList (fn.params.toList ++ s.plain.varTypes P ++ fn.resultTypes.toList)) = true)
    : joinedFacts P f fn s c = true := by
  unfold joinedFacts
  exact band (band (band (band (band (band (band (band (band (band (band (band (band (band (band (band (band (band (band (band (band (band (band (band (band (band (band (band (band (band (band h0 h1) h2) h3) h4) h5) h6) h7) h8) h9) h10) h11) h12) h13) h14) h15) h16) h17) h18) h19) h20) h21) h22) h23) h24) h25) h26) h27) h28) h29) h30) h31
end Go
