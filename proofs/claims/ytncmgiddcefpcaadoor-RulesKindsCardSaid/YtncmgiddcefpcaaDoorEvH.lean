/- Stores, maps, append, copy. -/
import Derived.Test.YtncmgiddcefpcaaDoorEvG
namespace Go.Ev
open Go
set_option linter.unusedSimpArgs false
set_option linter.unusedVariables false

theorem evStore_sound {P : Program} {m : Mp} {h h' : Hp} {w : World} (r : Rep P m h w) {t : TypeId} {a a' v v' : Value} (e : evStore P t a v h = some h') (ha : VRel m a a') (hv : VRel m v v') :
    ∃ w', (Instr.storeAt t a' v').run P w = .ok () w' ∧ Rep P m h' w' ∧ Step m h w m h' w' := by
  unfold evStore at e
  split at e
  · rename_i b o
    cases hs : (tSize P t == some v.cells.size) with
    | false => rw [hs] at e; simp at e
    | true =>
      rw [hs] at e; simp only [cond_true] at e
      simp only [beq_iff_eq] at hs
      cases ha with
      | ptr hL =>
        have hbx : boxable v = true := boxable_of (writeAt_cells e)
        obtain ⟨w', h1, h2, h3⟩ := writeAt_sound r e (hv.cells hbx) hL
        refine ⟨w', ?_, h2, h3⟩
        simp [Instr.storeAt, Instr.sureAddr, storeVar, run_sizeOf hs, hv.cells_size hbx, h1]
  · cases e

/-! ### maps -/
theorem Rep.setMap {P : Program} {m : Mp} {h : Hp} {w : World} (r : Rep P m h w) {b : Nat} {es es2 : List MapEntry} {ck ck2 : Nat} (hg : h.get b = some (.map es ck)) {L : Loc} (hL : m b = some L) {es2' : Array MapEntry} (he : EL m es2 es2'.toList) :
    Rep P m (h.set b (.map es2 ck2)) { w with heap := w.heap.setIfInBounds L.blk (.map es2' ck2) } ∧ Step m h w m (h.set b (.map es2 ck2)) { w with heap := w.heap.setIfInBounds L.blk (.map es2' ck2) } := by
  obtain ⟨L2, es', k1, k2, k3⟩ := r.map b es ck hg
  have : L2 = L := by rw [hL] at k1; exact (Option.some.inj k1).symm
  subst this
  have hlt := r.rng b L2 hL
  have hlb := live_map hg
  have hnew : (w.heap.setIfInBounds L2.blk (.map es2' ck2))[L2.blk]? = some (.map es2' ck2) := by simp [hlt]
  have hoth : ∀ k, k ≠ L2.blk → (w.heap.setIfInBounds L2.blk (.map es2' ck2))[k]? = w.heap[k]? := fun k hk => by rw [Array.getElem?_setIfInBounds_ne (by omega)]
  have hget : ∀ x, x ≠ b → (h.set b (.map es2 ck2)).get x = h.get x := fun x hx => by rw [Hp.get_set, if_neg hx]
  have hgetb : (h.set b (.map es2 ck2)).get b = some (.map es2 ck2) := by rw [Hp.get_set, if_pos rfl]
  have hlive : ∀ x, live (h.set b (.map es2 ck2)) x → live h x := fun x hx => by
    by_cases hxb : x = b
    · subst hxb; exact hlb
    · unfold live at *; rw [hget x hxb] at hx; exact hx
  refine ⟨⟨fun x Lx hx => by simpa using r.rng x Lx hx, fun x hx => ?_, fun x cs2 e2 st2 hgx hnd => ?_, fun x cs2 e2 b2 o2 hgx => ?_, fun x es3 ck3 hgx => ?_, fun x y Lx Ly hlx hxy hmx hmy hee => ?_⟩,
    ⟨Mp.le_refl m, Nat.le_refl _, by simp, fun c hc hn => hoth c fun h0 => hn b L2 hlb hL h0.symm, fun x Lx hlx hmx hc => ⟨x, Lx, hlive x hlx, hmx, rfl⟩, fun x Lx hmx _ => ⟨x, Lx, hmx, rfl⟩, rfl, rfl, rfl⟩⟩
  · rw [Hp.next_set] at hx
    have hxb : x ≠ b := fun h0 => by subst h0; have := (r.frs x hx).1; rw [hg] at this; cases this
    rw [hget x hxb]; exact r.frs x hx
  · have hxb : x ≠ b := fun h0 => by subst h0; rw [hgetb] at hgx; cases hgx
    rw [hget x hxb] at hgx
    obtain ⟨L4, cs4, fz4, g1, g2, g3⟩ := r.row x cs2 e2 st2 hgx hnd
    have hblk : L4.blk ≠ L2.blk := fun h0 => by rw [h0, k2] at g2; cases g2
    exact ⟨L4, cs4, fz4, g1, by rw [hoth _ hblk]; exact g2, g3⟩
  · have hxb : x ≠ b := fun h0 => by subst h0; rw [hgetb] at hgx; cases hgx
    rw [hget x hxb] at hgx
    obtain ⟨L4, cs4, n4, g1, g2, g3, g4⟩ := r.rw x cs2 e2 b2 o2 hgx
    have hblk : L4.blk ≠ L2.blk := fun h0 => by rw [h0, k2] at g2; cases g2
    exact ⟨L4, cs4, n4, g1, by rw [hoth _ hblk]; exact g2, g3, g4⟩
  · by_cases hxb : x = b
    · subst hxb
      rw [hgetb] at hgx; cases hgx
      exact ⟨L2, es2', hL, hnew, he⟩
    · rw [hget x hxb] at hgx
      obtain ⟨L4, es4, g1, g2, g3⟩ := r.map x es3 ck3 hgx
      have hblk := r.live_apart (live_map hgx) hlb g1 hL hxb
      exact ⟨L4, es4, g1, by rw [hoth _ hblk]; exact g2, g3⟩
  · rcases r.sep x y Lx Ly (hlive x hlx) hxy hmx hmy hee with h1 | ⟨cs5, e5, base5, olds5, cs6, e6, h1, h2, h3, h4⟩
    · have hyb : y ≠ b := fun h0 => by subst h0; exact not_inert hlb h1
      left; unfold inert at *; rw [hget y hyb]; exact h1
    · have hyb : y ≠ b := fun h0 => by subst h0; rw [hg] at h3; cases h3
      have hxb : x ≠ b := fun h0 => by subst h0; rw [hg] at h1; cases h1
      exact .inr ⟨_, _, _, _, cs6, e6, by rw [hget x hxb]; exact h1, h2, by rw [hget y hyb]; exact h3, h4⟩

theorem modify_toList {es : Array MapEntry} {i : Nat} {e : MapEntry} (h : es[i]? = some e) (f : MapEntry → MapEntry) : (es.modify i f).toList = es.toList.set i (f e) := by
  apply List.ext_getElem?
  intro j
  rw [Array.getElem?_toList, Array.getElem?_modify, List.getElem?_set]
  have hi := (Array.getElem?_eq_some_iff.1 h).1
  by_cases hij : i = j
  · subst hij
    have he := (Array.getElem?_eq_some_iff.1 h).2
    simp [hi, he]
  · simp [hij]

theorem run_getObj_map {P : Program} {w : World} {b : Nat} {es : Array MapEntry} {ck : Nat} (h : w.heap[b]? = some (.map es ck)) : (getObj b).run P w = .ok (.map es ck) w := by
  simp [getObj, Sem.run, h]
theorem run_setObj_map {P : Program} {w : World} {b : Nat} {es : Array MapEntry} {ck : Nat} (h : w.heap[b]? = some (.map es ck)) (o : Obj) : (setObj b o).run P w = .ok () { w with heap := w.heap.setIfInBounds b o } := by
  simp [setObj, Sem.run, h]

theorem evMapUpdate_sound {P : Program} {m : Mp} {h h' : Hp} {w : World} (r : Rep P m h w) {t : TypeId} {x x' k k' v v' : Value} (e : evMapUpdate P t x k v h = some h') (hx : VRel m x x') (hk : VRel m k k') (hv : VRel m v v') :
    ∃ w', (Instr.mapUpdate t x' k' v').run P w = .ok () w' ∧ Rep P m h' w' ∧ Step m h w m h' w' := by
  unfold evMapUpdate at e
  split at e
  · rename_i kt et b ht
    split at e
    · rename_i es ck hg
      cases hf : flat k with
      | false => rw [hf] at e; simp at e
      | true =>
        rw [hf] at e
        simp only [Bool.not_true, cond_false, Option.bind_eq_some_iff] at e
        obtain ⟨res, hres, e⟩ := e
        rw [hk.flat_eq hf]
        cases hx with
        | mp hL =>
          rename_i L
          obtain ⟨L2, es', k1, k2, k3⟩ := r.map b es ck hg
          have : L2 = L := by rw [hL] at k1; exact (Option.some.inj k1).symm
          subst this
          obtain ⟨hck, r', hr1, hr2⟩ := look_rel k3 hres
          cases hr2 with
          | none =>
            simp only [Option.some.injEq] at e; subst e
            have hs := r.setMap hg hL (es2 := es ++ [{ key := k, val := v, born := ck }]) (ck2 := ck + 1) (es2' := es'.push { key := k, val := v', born := ck }) (by
              simp only [Array.toList_push]
              exact k3.append (.cons rfl hf hv rfl .nil))
            refine ⟨_, ?_, hs⟩
            simp [Instr.mapUpdate, run_underlying (tMap_spec ht), run_getObj_map k2, hck, hr1, run_setObj_map k2]
          | some hvv =>
            rename_i i u u'
            simp only at e
            split at e
            · rename_i en hen
              cases hsb : Instr.sameBits 10000 en.key k with
              | false => rw [hsb] at e; simp at e
              | true =>
                rw [hsb] at e; simp only [cond_true, Option.some.injEq] at e; subst e
                obtain ⟨en', g1, g2, g3, g4, g5⟩ := k3.getElem? i hen
                have g1' : es'[i]? = some en' := by simpa using g1
                have hs := r.setMap hg hL (es2 := es.set i { en with key := k, val := v }) (ck2 := ck) (es2' := es'.modify i fun e => { e with key := k, val := v' }) (by
                  rw [modify_toList g1']
                  exact k3.set hf hv i hen g1)
                refine ⟨_, ?_, hs⟩
                simp [Instr.mapUpdate, run_underlying (tMap_spec ht), run_getObj_map k2, hck, hr1, run_setObj_map k2, g1', g2, Instr.keyThatStays, hsb]
            · cases e
    · cases e
  · cases e

theorem evDelete_sound {P : Program} {m : Mp} {h h' : Hp} {w : World} (r : Rep P m h w) {t : TypeId} {x x' k k' : Value} (e : evDelete P t x k h = some h') (hx : VRel m x x') (hk : VRel m k k') (ts : Array TypeId) (hts : ts[0]? = some t) (ty : TypeId) :
    ∃ w', (Builtin.delete_ ts ty #[x', k']).run P w = .ok (.tuple #[]) w' ∧ Rep P m h' w' ∧ Step m h w m h' w' := by
  unfold evDelete at e
  split at e
  · rename_i kt et b ht
    split at e
    · rename_i es ck hg
      cases hf : flat k with
      | false => rw [hf] at e; simp at e
      | true =>
        rw [hf] at e
        simp only [Bool.not_true, cond_false, Option.bind_eq_some_iff] at e
        obtain ⟨res, hres, e⟩ := e
        rw [hk.flat_eq hf]
        cases hx with
        | mp hL =>
          rename_i L
          obtain ⟨L2, es', k1, k2, k3⟩ := r.map b es ck hg
          have : L2 = L := by rw [hL] at k1; exact (Option.some.inj k1).symm
          subst this
          obtain ⟨hck, r', hr1, hr2⟩ := look_rel k3 hres
          have hem := k3.isEmpty
          cases hr2 with
          | none =>
            simp only [Option.some.injEq] at e; subst e
            refine ⟨{ w with heap := w.heap.setIfInBounds L2.blk (.map es' ck) }, ?_, ?_⟩
            · simp [Builtin.delete_, hts, run_underlying (tMap_spec ht), run_getObj_map k2, hem, hck, hr1, run_setObj_map k2]
            · have : w.heap.setIfInBounds L2.blk (.map es' ck) = w.heap := by
                apply Array.ext_getElem?
                intro i
                by_cases hi : i = L2.blk
                · subst hi; simp [r.rng b L2 hL]; exact (Array.getElem?_eq_some_iff.1 k2).2.symm
                · rw [Array.getElem?_setIfInBounds_ne (by omega)]
              rw [this]
              exact ⟨r, Step.refl _ _ _⟩
          | some hvv =>
            rename_i i u u'
            simp only [Option.some.injEq] at e; subst e
            have hs := r.setMap hg hL (es2 := es.eraseIdx i) (ck2 := ck) (es2' := es'.eraseIdxIfInBounds i) (by
              have : (es'.eraseIdxIfInBounds i).toList = es'.toList.eraseIdx i := by
                unfold Array.eraseIdxIfInBounds
                split
                · simp
                · rename_i hi
                  rw [List.eraseIdx_of_length_le (by simpa using hi)]
              rw [this]
              exact k3.eraseIdx i)
            refine ⟨_, ?_, hs⟩
            simp [Builtin.delete_, hts, run_underlying (tMap_spec ht), run_getObj_map k2, hem, hck, hr1, run_setObj_map k2]
    · cases e
  · cases e

/-! ### append -/
theorem nextslicecap_le' (need old : Nat) (h : old < need) : Builtin.nextslicecap need old ≤ 2 * need := Go.nextslicecap_le h

theorem lenOf_sound {P : Program} {m : Mp} {v v' : Value} {k : Nat} (e : lenOf v = some k) (hv : VRel m v v') : ∀ w, (Builtin.lenOf v').run P w = .ok k w := by
  cases hv <;> simp [lenOf] at e <;> subst e <;> intro w <;> simp [Builtin.lenOf]

/-- What is known of the types at an append. -/
structure AppT (P : Program) (ts : Array TypeId) (t u el n : Nat) (ud : TypeDesc) (ti : TypeInfo) (z : Value) : Prop where
  ht : ts[0]? = some t
  hu : ts[1]? = some u
  hel : P.underlying t = some (.slice el)
  hud : P.underlying u = some ud
  hni : (∃ e, ud = .slice e) ∨ ud = .string
  hn : tSize P el = some n
  hti : P.info? el = some ti
  hz : tZero P el = some z

section
variable {P : Program} {ts : Array TypeId} {t u el n : Nat} {ud : TypeDesc} {ti : TypeInfo} {z : Value}

theorem run_append_in (T : AppT P ts t u el n ud ti z) (ty : TypeId) {a : Option Addr} {len cap k : Nat} {x : Value} {new : Array Value} {w w' : World}
    (hk : (Builtin.lenOf x).run P w = .ok k w) (hroom : len + k ≤ cap) (hnew : (Builtin.firstCells n k x).run P w = .ok new w)
    (hst : (match a with | some a => (storeCells (a.add (len * n)) new.toList).run P w | none => .ok () w) = .ok () w') :
    (Builtin.append_ ts ty #[.slice a len cap, x]).run P w = .ok (.slice a (len + k) cap) w' := by
  have e := T.hud
  rcases T.hni with ⟨e', rfl⟩ | rfl
  all_goals cases a with
    | none => simp at hst; subst hst; simp [Builtin.append_, T.ht, T.hu, run_underlying T.hel, run_sizeOf T.hn, run_underlying e, hk, hroom, hnew]
    | some a => simp at hst; simp [Builtin.append_, T.ht, T.hu, run_underlying T.hel, run_sizeOf T.hn, run_underlying e, hk, hroom, hnew, hst]

theorem run_append_new (T : AppT P ts t u el n ud ti z) (ty : TypeId) {a : Option Addr} {len cap k : Nat} {x : Value} {old new : Array Value} {w : World}
    (hk : (Builtin.lenOf x).run P w = .ok k w) (hroom : cap < len + k) (hbig : (2 * (len + k) + 1024) * (ti.bytes + 1) ≤ 2 ^ 47)
    (hold : (Builtin.firstCells n len (.slice a len cap)).run P { w with drawn := w.drawn + 1 } = .ok old { w with drawn := w.drawn + 1 })
    (hnew : (Builtin.firstCells n k x).run P { w with drawn := w.drawn + 1 } = .ok new { w with drawn := w.drawn + 1 }) :
    ∃ nc, len + k ≤ nc ∧ (Builtin.append_ ts ty #[.slice a len cap, x]).run P w =
      .ok (.slice (some ⟨w.heap.size, 0, none⟩) (len + k) nc) { w with drawn := w.drawn + 1, heap := w.heap.push (.cells (old ++ new ++ Builtin.zeroCells z.cells (nc - (len + k))) el (0, 0)) } := by
  have hbig2 : (2 * (len + k) + 1024) * ti.bytes ≤ 2 ^ 47 := Nat.le_trans (Nat.mul_le_mul_left _ (Nat.le_succ _)) hbig
  have hbig1 : (2 * (len + k) + 1024) * 1 ≤ 2 ^ 47 := Nat.le_trans (Nat.mul_le_mul_left _ (by omega)) hbig
  have hns2 : Builtin.nextslicecap (len + k) cap * ti.bytes ≤ 2 ^ 47 := Nat.le_trans (Nat.mul_le_mul_right _ (by have := nextslicecap_le' (len + k) cap hroom; omega)) hbig2
  have t1 : ¬ len + k ≤ cap := by omega
  have t2 : ¬ 281474976710656 < Builtin.nextslicecap (len + k) cap * ti.bytes := by omega
  have t3 : ¬ (9223372036854775807 : Int) < (len : Int) + (k : Int) := by omega
  refine ⟨(Question.appendCap (len + k) cap el).cut (w.tape w.drawn (.appendCap (len + k) cap el)), by simp [Question.cut], ?_⟩
  have hold' := hold
  have hnew' := hnew
  simp only [World.drew_eq] at hold' hnew' ⊢
  have e := T.hud
  rcases T.hni with ⟨e', rfl⟩ | rfl
  all_goals simp [Builtin.append_, T.ht, T.hu, run_underlying T.hel, run_sizeOf T.hn, run_underlying e, hk, t1, t2, t3, run_typeInfo T.hti, IntKind.max, IntKind.signed, IntKind.bits, Question.forced, hold', hnew', run_zeroValue T.hz, newRow]
  all_goals rfl
end

theorem lenOf_bound {m : Mp} {s' : Value} {base : Option Addr} {len cap : Nat} (hs : VRel m (.slice base len cap) s') : len ≤ cap / 2 := by
  cases hs with
  | nils => omega
  | slc hL hl hc ha => exact hl

theorem evCells_size {size n : Nat} {v : Value} {h : Hp} {cs : List Value} (e : evCells size n v h = some cs) (hs : ∀ s, v = .string s → size = 1 ∧ n ≤ s.size) (hn : ∀ l c, v = .slice none l c → n = 0) : cs.length = n * size := by
  unfold evCells at e
  split at e
  · rename_i l c
    simp at e; subst e
    rw [hn _ _ rfl]; simp
  · rename_i b o l c
    cases hz : n * size == 0 with
    | true => have := beq_iff_eq.1 hz; rw [hz] at e; simp at e; subst e; rw [this]; rfl
    | false =>
      rw [hz] at e; simp only [cond_false, Option.bind_eq_some_iff] at e
      obtain ⟨xs, hx, e⟩ := e
      cases hd : decide (o + n * size ≤ xs.length) with
      | false => rw [hd] at e; simp at e
      | true =>
        rw [hd] at e; simp at e hd; subst e
        simp; omega
  · rename_i s
    simp only [Option.some.injEq] at e; subst e
    obtain ⟨h1, h2⟩ := hs s rfl
    subst h1
    simp [ByteArray.size_data]
    omega
  · cases e

/-- A grown slice: the new version beside the old one, in the true block of the old one. -/
theorem Rep.grow {P : Program} {m : Mp} {h : Hp} {w : World} (r : Rep P m h w) {b : Nat} {cs : List Value} {el : TypeId} {bs : Nat} {olds : List Nat} (hg : h.get b = some (.row cs el (.rw bs olds))) (hbs : bs ≤ cs.length)
    {L : Loc} (hL : m b = some L) {new new' : List Value} (hv : VL m new new') (hcell : new.all isCell = true) {n k : Nat} (hn : tSize P el = some n) (hnk : new.length = k * n) (hk : k ≤ L.extra) :
    ∃ w', (storeCells ⟨L.blk, cs.length, none⟩ new' 0).run P w = .ok () w' ∧
      Rep P (m.upd h.next ⟨L.blk, L.extra - k⟩) ((h.set b (.row cs el .ro)).push (.row (cs ++ new) el (.rw cs.length (b :: olds)))) w' ∧
      Step m h w (m.upd h.next ⟨L.blk, L.extra - k⟩) ((h.set b (.row cs el .ro)).push (.row (cs ++ new) el (.rw cs.length (b :: olds)))) w' := by
  obtain ⟨L2, cs', n2, k1, k2, k3, k4⟩ := r.rw b cs el bs olds hg
  have : L2 = L := by rw [hL] at k1; exact (Option.some.inj k1).symm
  subst this
  obtain ⟨L3, cs3, fz, l1, l2, l3⟩ := r.row b cs el _ hg trivial
  have : L3 = L2 := by rw [hL] at l1; exact (Option.some.inj l1).symm
  subst this
  have : cs3 = cs' := by rw [k2] at l2; cases l2; rfl
  subst this
  have hvl := hv.length
  have hsize : cs3.size = cs.length + L3.extra * n := by
    rcases k3 with h1 | h1
    · rw [hn] at h1; cases h1; exact k4
    · rw [h1] at k4 ⊢; simpa using k4
  have hkn : k * n ≤ L3.extra * n := Nat.mul_le_mul_right _ hk
  have hroom : cs.length + new'.length ≤ cs3.size := by omega
  have hcell' : ∀ v ∈ new', v.oneCell' = true := by
    intro v hv2
    obtain ⟨i, hi⟩ := List.mem_iff_getElem?.1 hv2
    have hi' : i < new.length := by have := (List.getElem?_eq_some_iff.1 hi).1; omega
    obtain ⟨a', h1, h2⟩ := hv.getElem? i (List.getElem?_eq_getElem hi')
    rw [hi] at h1; cases h1
    have hc := (List.all_eq_true.1 hcell) _ (List.getElem_mem hi')
    replace hc := h2.isCell hc
    cases v <;> simp [isCell] at hc <;> rfl
  have hrun := run_storeCells_at (P := P) L3.blk cs.length el new' 0 cs3 w k2 (by omega) hcell'
  have hsp : (cs3.toList.take (cs.length + 0) ++ new' ++ cs3.toList.drop (cs.length + 0 + new'.length)) = splice cs3.toList cs.length new' := rfl
  rw [hsp] at hrun
  generalize hw' : w.setRow L3.blk (splice cs3.toList cs.length new').toArray = w' at hrun
  have hnew : w'.heap[L3.blk]? = some (.cells (splice cs3.toList cs.length new').toArray el (0, 0)) := by rw [← hw']; exact setRow_heap w _ _ _ _ _ k2
  have hoth : ∀ k, k ≠ L3.blk → w'.heap[k]? = w.heap[k]? := fun k hk => by rw [← hw']; exact setRow_other w _ _ k hk
  have hsz : w'.heap.size = w.heap.size := by rw [← hw']; exact setRow_size w _ _
  have hos : w'.os = w.os ∧ w'.tape = w.tape ∧ w'.output = w.output := by rw [← hw']; exact ⟨rfl, rfl, rfl⟩
  have hlb := live_row hg
  have hnn := r.frs h.next (Nat.le_refl _)
  have hbn : b < h.next := by
    rcases Nat.lt_or_ge b h.next with h1 | h1
    · exact h1
    · have := (r.frs b h1).1; rw [hg] at this; cases this
  generalize hh' : (h.set b (.row cs el .ro)).push (.row (cs ++ new) el (.rw cs.length (b :: olds))) = h'
  have hget : ∀ x, h'.get x = if x = h.next then some (.row (cs ++ new) el (.rw cs.length (b :: olds))) else if x = b then some (.row cs el .ro) else h.get x := fun x => by
    rw [← hh', Hp.get_push, Hp.next_set, Hp.get_set]
  have hnext : h'.next = h.next + 1 := by rw [← hh']; rfl
  have hle : m.le (m.upd h.next ⟨L3.blk, L3.extra - k⟩) := Mp.le_upd hnn.2
  have hupd : ∀ x, x ≠ h.next → (m.upd h.next ⟨L3.blk, L3.extra - k⟩) x = m x := fun x hx => by simp [Mp.upd, hx]
  have hlive : ∀ x, live h' x → x ≠ h.next → live h x ∧ x ≠ b := fun x hx hxn => by
    unfold live at hx
    rw [hget x, if_neg hxn] at hx
    by_cases hxb : x = b
    · subst hxb; simp [liveO] at hx
    · rw [if_neg hxb] at hx; exact ⟨hx, hxb⟩
  have hside : ∀ x Lx cs2 e2 st2, x ≠ b → h.get x = some (.row cs2 e2 st2) → notDead st2 → m x = some Lx → Lx.blk = L3.blk → cs2.length ≤ cs.length := by
    intro x Lx cs2 e2 st2 hxb hgx hnd hm2 he2
    rcases r.sep b x L3 Lx hlb (Ne.symm hxb) hL hm2 he2.symm with h1 | ⟨cs5, e5, base5, olds5, cs6, e6, h1, h2, h3, h4⟩
    · exfalso
      unfold inert at h1; rw [hgx] at h1
      cases st2 <;> simp [notDead, inertO] at *
    · rw [hg] at h1; cases h1
      rw [hgx] at h3; cases h3
      omega
  have hcsl : cs.length ≤ cs3.toList.length := by simp; omega
  refine ⟨w', hrun, ⟨fun x Lx hx => ?_, fun x hx => ?_, fun x cs2 e2 st2 hgx hnd => ?_, fun x cs2 e2 b2 o2 hgx => ?_, fun x es ck hgx => ?_, fun x y Lx Ly hlx hxy hmx hmy he => ?_⟩,
    ⟨hle, by rw [hnext]; omega, by rw [hsz]; exact Nat.le_refl _, fun c hc hn => hoth c fun h0 => hn b L3 hlb hL h0.symm, fun x Lx hlx hmx hc => ?_, fun x Lx hmx hc => ?_, hos.1, hos.2.1, hos.2.2⟩⟩
  · rw [hsz]
    unfold Mp.upd at hx
    split at hx
    · cases hx; exact r.rng b L3 hL
    · exact r.rng x Lx hx
  · rw [hnext] at hx
    have h1 := r.frs x (by omega)
    rw [hget, if_neg (by omega), if_neg (by omega), hupd x (by omega)]
    exact h1
  · rw [hget] at hgx
    by_cases hxn : x = h.next
    · rw [if_pos hxn] at hgx; cases hgx
      subst hxn
      refine ⟨_, _, _, Mp.upd_self _ _ _, hnew, ?_⟩
      rw [List.toList_toArray, List.length_append, hvl]
      have : (splice cs3.toList cs.length new').take (cs.length + new'.length) = cs3.toList.take cs.length ++ new' := by
        unfold splice
        rw [List.take_append_of_le_length (by simp; omega), List.take_of_length_le (by simp; omega)]
      rw [this]
      exact (l3.append hv).mono hle
    · rw [if_neg hxn] at hgx
      by_cases hxb : x = b
      · rw [if_pos hxb] at hgx; cases hgx
        subst hxb
        refine ⟨L3, _, _, by rw [hupd x hxn]; exact hL, hnew, ?_⟩
        rw [List.toList_toArray, take_splice_low (Nat.le_refl _) (by omega)]
        exact l3.mono hle
      · rw [if_neg hxb] at hgx
        obtain ⟨L4, cs4, fz4, g1, g2, g3⟩ := r.row x cs2 e2 st2 hgx hnd
        by_cases hblk : L4.blk = L3.blk
        · have ho := hside x L4 cs2 e2 st2 hxb hgx hnd g1 hblk
          rw [hblk, k2] at g2
          cases g2
          refine ⟨L4, _, _, by rw [hupd x hxn]; exact g1, by rw [hblk]; exact hnew, ?_⟩
          rw [List.toList_toArray, take_splice_low ho (by omega)]
          exact g3.mono hle
        · exact ⟨L4, cs4, fz4, by rw [hupd x hxn]; exact g1, by rw [hoth _ hblk]; exact g2, g3.mono hle⟩
  · rw [hget] at hgx
    by_cases hxn : x = h.next
    · rw [if_pos hxn] at hgx; cases hgx
      subst hxn
      refine ⟨_, _, n, Mp.upd_self _ _ _, hnew, .inl hn, ?_⟩
      rw [List.size_toArray, length_splice (by simp; omega), List.length_append, hnk]
      simp only [Array.length_toList, hsize]
      have : L3.extra * n = k * n + (L3.extra - k) * n := by rw [← Nat.add_mul]; congr 1; omega
      omega
    · rw [if_neg hxn] at hgx
      by_cases hxb : x = b
      · rw [if_pos hxb] at hgx; cases hgx
      · rw [if_neg hxb] at hgx
        obtain ⟨L4, cs4, n4, g1, g2, g3, g4⟩ := r.rw x cs2 e2 b2 o2 hgx
        have hblk := r.live_apart (live_row hgx) hlb g1 hL hxb
        exact ⟨L4, cs4, n4, by rw [hupd x hxn]; exact g1, by rw [hoth _ hblk]; exact g2, g3, g4⟩
  · rw [hget] at hgx
    by_cases hxn : x = h.next
    · rw [if_pos hxn] at hgx; cases hgx
    · rw [if_neg hxn] at hgx
      by_cases hxb : x = b
      · rw [if_pos hxb] at hgx; cases hgx
      · rw [if_neg hxb] at hgx
        obtain ⟨L4, es4, g1, g2, g3⟩ := r.map x es ck hgx
        have hblk := r.live_apart (live_map hgx) hlb g1 hL hxb
        exact ⟨L4, es4, by rw [hupd x hxn]; exact g1, by rw [hoth _ hblk]; exact g2, g3.mono hle⟩
  · by_cases hxn : x = h.next
    · subst hxn
      rw [Mp.upd_self] at hmx; cases hmx
      have hyn : y ≠ h.next := Ne.symm hxy
      rw [hupd y hyn] at hmy
      by_cases hyb : y = b
      · subst hyb
        right
        exact ⟨_, _, _, _, cs, el, by rw [hget, if_pos rfl], by simp, by rw [hget, if_neg hyn, if_pos rfl], Nat.le_refl _⟩
      · rcases r.sep b y L3 Ly hlb (Ne.symm hyb) hL hmy he with h1 | ⟨cs5, e5, base5, olds5, cs6, e6, h1, h2, h3, h4⟩
        · left; unfold inert at *; rw [hget, if_neg hyn, if_neg hyb]; exact h1
        · rw [hg] at h1; cases h1
          right
          exact ⟨_, _, _, _, cs6, e6, by rw [hget, if_pos rfl], by simp [h2], by rw [hget, if_neg hyn, if_neg hyb]; exact h3, by omega⟩
    · obtain ⟨hlx', hxb⟩ := hlive x hlx hxn
      rw [hupd x hxn] at hmx
      by_cases hyn : y = h.next
      · subst hyn
        rw [Mp.upd_self] at hmy; cases hmy
        exfalso
        exact r.live_apart hlx' hlb hmx hL hxb he
      · rw [hupd y hyn] at hmy
        rcases r.sep x y Lx Ly hlx' hxy hmx hmy he with h1 | ⟨cs5, e5, base5, olds5, cs6, e6, h1, h2, h3, h4⟩
        · have hyb : y ≠ b := fun h0 => by subst h0; exact not_inert hlb h1
          left; unfold inert at *; rw [hget, if_neg hyn, if_neg hyb]; exact h1
        · have hyb : y ≠ b := fun h0 => by subst h0; rw [hg] at h3; cases h3
          right
          exact ⟨_, _, _, _, cs6, e6, by rw [hget, if_neg hxn, if_neg hxb]; exact h1, h2, by rw [hget, if_neg hyn, if_neg hyb]; exact h3, h4⟩
  · by_cases hxn : x = h.next
    · subst hxn
      rw [Mp.upd_self] at hmx; cases hmx
      exact ⟨b, L3, hlb, hL, rfl⟩
    · rw [hupd x hxn] at hmx
      exact ⟨x, Lx, (hlive x hlx hxn).1, hmx, rfl⟩
  · by_cases hxn : x = h.next
    · subst hxn
      rw [Mp.upd_self] at hmx; cases hmx
      exact ⟨b, L3, hL, rfl⟩
    · rw [hupd x hxn] at hmx
      exact ⟨x, Lx, hmx, rfl⟩

end Go.Ev
