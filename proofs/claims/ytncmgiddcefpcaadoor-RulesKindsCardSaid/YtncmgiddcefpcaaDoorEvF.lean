/- Operations that make a block, and those that write. -/
import Derived.Test.YtncmgiddcefpcaaDoorEvE
import Derived.Laws.CopyRow
import Derived.IntWalk
namespace Go.Ev
open Go
set_option linter.unusedSimpArgs false
set_option linter.unusedVariables false

/-- From one state to another. -/
structure Step (m : Mp) (h : Hp) (w : World) (m' : Mp) (h' : Hp) (w' : World) : Prop where
  le : m.le m'
  next : h.next ≤ h'.next
  size : w.heap.size ≤ w'.heap.size
  same : ∀ c, c < w.heap.size → (∀ b L, live h b → m b = some L → L.blk ≠ c) → w'.heap[c]? = w.heap[c]?
  liv : ∀ b L, live h' b → m' b = some L → L.blk < w.heap.size → ∃ b0 L0, live h b0 ∧ m b0 = some L0 ∧ L0.blk = L.blk
  old : ∀ b L, m' b = some L → L.blk < w.heap.size → ∃ b0 L0, m b0 = some L0 ∧ L0.blk = L.blk
  os : w'.os = w.os
  tape : w'.tape = w.tape
  output : w'.output = w.output

theorem Step.refl (m : Mp) (h : Hp) (w : World) : Step m h w m h w :=
  ⟨Mp.le_refl m, Nat.le_refl _, Nat.le_refl _, fun _ _ _ => rfl, fun b L hl hm _ => ⟨b, L, hl, hm, rfl⟩, fun b L hm _ => ⟨b, L, hm, rfl⟩, rfl, rfl, rfl⟩
theorem Step.trans {m m' m'' : Mp} {h h' h'' : Hp} {w w' w'' : World} (a : Step m h w m' h' w') (b : Step m' h' w' m'' h'' w'') : Step m h w m'' h'' w'' := by
  refine ⟨Mp.le_trans a.le b.le, Nat.le_trans a.next b.next, Nat.le_trans a.size b.size, fun c hc hn => ?_, fun x L hl hm hc => ?_, fun x L hm hc => ?_, b.os.trans a.os, b.tape.trans a.tape, b.output.trans a.output⟩
  · rw [← a.same c hc hn]
    refine b.same c (Nat.lt_of_lt_of_le hc a.size) fun x L hl hm e => ?_
    obtain ⟨b0, L0, h1, h2, h3⟩ := a.liv x L hl hm (by omega)
    exact hn b0 L0 h1 h2 (by omega)
  · obtain ⟨b0, L0, h1, h2, h3⟩ := b.liv x L hl hm (Nat.lt_of_lt_of_le hc a.size)
    obtain ⟨b1, L1, g1, g2, g3⟩ := a.liv b0 L0 h1 h2 (by omega)
    exact ⟨b1, L1, g1, g2, by omega⟩
  · obtain ⟨b0, L0, h2, h3⟩ := b.old x L hm (Nat.lt_of_lt_of_le hc a.size)
    obtain ⟨b1, L1, g2, g3⟩ := a.old b0 L0 h2 (by omega)
    exact ⟨b1, L1, g2, by omega⟩
theorem Step.drew (m : Mp) (h : Hp) (w : World) : Step m h w m h { w with drawn := w.drawn + 1 } :=
  ⟨Mp.le_refl m, Nat.le_refl _, Nat.le_refl _, fun _ _ _ => rfl, fun b L hl hm _ => ⟨b, L, hl, hm, rfl⟩, fun b L hm _ => ⟨b, L, hm, rfl⟩, rfl, rfl, rfl⟩

/-! ### the heap's own laws -/
theorem Hp.get_set (h : Hp) (b : Nat) (o : Ob) (x : Nat) : (h.set b o).get x = if x = b then some o else h.get x := Tr.get_set _ _ _ _
theorem Hp.get_push (h : Hp) (o : Ob) (x : Nat) : (h.push o).get x = if x = h.next then some o else h.get x := Tr.get_set _ _ _ _
theorem Hp.next_set (h : Hp) (b : Nat) (o : Ob) : (h.set b o).next = h.next := rfl
theorem Hp.next_push (h : Hp) (o : Ob) : (h.push o).next = h.next + 1 := rfl

def Mp.upd (m : Mp) (b : Nat) (L : Loc) : Mp := fun x => if x = b then some L else m x
theorem Mp.le_upd {m : Mp} {b : Nat} {L : Loc} (h : m b = none) : m.le (m.upd b L) := fun x K e => by
  unfold Mp.upd
  split
  · rename_i hx; subst hx; rw [h] at e; cases e
  · exact e
theorem Mp.upd_self (m : Mp) (b : Nat) (L : Loc) : (m.upd b L) b = some L := by simp [Mp.upd]

/-- A new block on both sides. -/
inductive NewOb (m : Mp) : Ob → Obj → Nat → Prop
  | row {cs : List Value} {cs' : Array Value} {e : TypeId} {x : Nat} (h : VL m cs (cs'.toList.take cs.length)) (olds : List Nat) (base : Nat) (P : Program) (n : Nat) (hs : tSize P e = some n ∨ x = 0) (hn : cs'.size = cs.length + x * n) : NewOb m (.row cs e (.rw base olds)) (.cells cs' e (0, 0)) x
  | map : NewOb m (.map [] 0) (.map #[] 0) 0

theorem Rep.push {P : Program} {m : Mp} {h : Hp} {w w0 : World} (r : Rep P m h w0) (hw : w0.heap = w.heap) {ob : Ob} {ob' : Obj} {x : Nat}
    (hob : (∃ cs cs' e n base olds, ob = .row cs e (.rw base olds) ∧ ob' = .cells cs' e (0, 0) ∧ VL m cs (cs'.toList.take cs.length) ∧ (tSize P e = some n ∨ x = 0) ∧ cs'.size = cs.length + x * n) ∨ (ob = .map [] 0 ∧ ob' = .map #[] 0)) :
    Rep P (m.upd h.next ⟨w.heap.size, x⟩) (h.push ob) { w with heap := w.heap.push ob' } := by
  have hn := (r.frs h.next (Nat.le_refl _)).2
  have hle : m.le (m.upd h.next ⟨w.heap.size, x⟩) := Mp.le_upd hn
  have hg : ∀ b o, h.get b = some o → b ≠ h.next := fun b o e he => by
    have := (r.frs b (by omega)).1; rw [e] at this; cases this
  have hold : ∀ c : Nat, ∀ o, w.heap[c]? = some o → (w.heap.push ob')[c]? = some o := fun c o e => by
    have : c < w.heap.size := (Array.getElem?_eq_some_iff.1 e).1
    rw [Array.getElem?_push, if_neg (by omega)]; exact e
  have hnew : (w.heap.push ob')[w.heap.size]? = some ob' := by simp
  have hlv : ∀ b, live (h.push ob) b → b ≠ h.next → live h b := fun b hl hb => by
    unfold live at *; rw [Hp.get_push, if_neg hb] at hl; exact hl
  refine ⟨fun b L e => ?_, fun b hb => ?_, fun b cs e st hb hd => ?_, fun b cs e base olds hb => ?_, fun b es ck hb => ?_, fun b b' L L' hl hne hm hm' he => ?_⟩
  · unfold Mp.upd at e
    simp only [Array.size_push]
    split at e
    · cases e; simp
    · have := r.rng b L e; rw [hw] at this; omega
  · rw [Hp.next_push] at hb
    refine ⟨?_, ?_⟩
    · rw [Hp.get_push, if_neg (by omega)]; exact (r.frs b (by omega)).1
    · unfold Mp.upd; rw [if_neg (by omega)]; exact (r.frs b (by omega)).2
  · rw [Hp.get_push] at hb
    split at hb
    · rename_i hbn
      subst hbn
      rcases hob with ⟨cs1, cs', e1, n, base, olds, rfl, rfl, h1, h2, h3⟩ | ⟨rfl, rfl⟩
      · cases hb
        exact ⟨_, cs', (0, 0), Mp.upd_self _ _ _, hnew, h1.mono hle⟩
      · cases hb
    · obtain ⟨L, cs', fz, h1, h2, h3⟩ := r.row b cs e st hb hd
      rw [hw] at h2
      exact ⟨L, cs', fz, hle _ _ h1, hold _ _ h2, h3.mono hle⟩
  · rw [Hp.get_push] at hb
    split at hb
    · rename_i hbn
      subst hbn
      rcases hob with ⟨cs1, cs', e1, n, base, olds, rfl, rfl, h1, h2, h3⟩ | ⟨rfl, rfl⟩
      · cases hb
        exact ⟨_, cs', n, Mp.upd_self _ _ _, hnew, h2, h3⟩
      · cases hb
    · obtain ⟨L, cs', n, h1, h2, h3⟩ := r.rw b cs e base olds hb
      rw [hw] at h2
      exact ⟨L, cs', n, hle _ _ h1, hold _ _ h2, h3⟩
  · rw [Hp.get_push] at hb
    split at hb
    · rename_i hbn
      subst hbn
      rcases hob with ⟨cs1, cs', e1, n, base, olds, rfl, rfl, h1, h2, h3⟩ | ⟨rfl, rfl⟩
      · cases hb
      · cases hb
        exact ⟨_, #[], Mp.upd_self _ _ _, hnew, .nil⟩
    · obtain ⟨L, es', h1, h2, h3⟩ := r.map b es ck hb
      rw [hw] at h2
      exact ⟨L, es', hle _ _ h1, hold _ _ h2, h3.mono hle⟩
  · unfold Mp.upd at hm hm'
    split at hm
    · rename_i hbn
      cases hm
      rw [if_neg (by omega)] at hm'
      have := r.rng b' L' hm'
      rw [hw] at this
      simp at he; omega
    · rename_i hbn
      split at hm'
      · cases hm'
        have := r.rng b L hm
        rw [hw] at this
        simp at he; omega
      · rename_i hbn'
        rcases r.sep b b' L L' (hlv b hl hbn) hne hm hm' he with h1 | ⟨cs, e, base, olds, cs2, e2, h1, h2, h3, h4⟩
        · left; unfold inert at *; rw [Hp.get_push, if_neg hbn']; exact h1
        · right
          exact ⟨cs, e, base, olds, cs2, e2, by rw [Hp.get_push, if_neg hbn]; exact h1, h2, by rw [Hp.get_push, if_neg hbn']; exact h3, h4⟩

theorem Step.push {P : Program} {m : Mp} {h : Hp} {w : World} (r : Rep P m h w) (ob : Ob) (ob' : Obj) (x : Nat) :
    Step m h w (m.upd h.next ⟨w.heap.size, x⟩) (h.push ob) { w with heap := w.heap.push ob' } := by
  have hn := (r.frs h.next (Nat.le_refl _)).2
  refine ⟨Mp.le_upd hn, by rw [Hp.next_push]; omega, by simp, fun c hc _ => by rw [Array.getElem?_push, if_neg (by omega)], fun b L hl hm hc => ?_, fun b L hm hc => ?_, rfl, rfl, rfl⟩
  · unfold Mp.upd at hm
    split at hm
    · cases hm; simp at hc
    · rename_i hb
      refine ⟨b, L, ?_, hm, rfl⟩
      unfold live at *; rw [Hp.get_push, if_neg hb] at hl; exact hl
  · unfold Mp.upd at hm
    split at hm
    · cases hm; simp at hc
    · exact ⟨b, L, hm, rfl⟩

/-! ### operations that make one block -/
theorem range_flatten (z : Array Value) : ∀ n : Nat, ((Array.range (n * z.size)).map (fun i => z[i % z.size]!)).toList = (List.replicate n z.toList).flatten
  | 0 => by simp
  | n + 1 => by
    have ih := range_flatten z n
    simp only [Array.toList_map, Array.toList_range] at ih ⊢
    rw [show (n + 1) * z.size = n * z.size + z.size by rw [Nat.succ_mul], List.range_add, List.map_append, ih, List.replicate_succ', List.flatten_append]
    congr 1
    simp only [List.map_map, List.flatten_cons, List.flatten_nil, List.append_nil]
    apply List.ext_getElem?
    intro i
    by_cases hi : i < z.size
    · simp [hi, Nat.mod_eq_of_lt hi]
    · simp [hi]

theorem slc_exact {m : Mp} {b o len k : Nat} {L : Loc} (h : m b = some L) (hl : len ≤ k) : VRel m (.slice (some ⟨b, o, none⟩) len (2 * k)) (.slice (some ⟨L.blk, o, none⟩) len k) :=
  .slc h (by omega) (by rw [show 2 * k / 2 = k by omega, show 2 * k % 2 = 0 by omega]; simp) (.inl rfl)

theorem flat_cells {m : Mp} {z : Value} (h : flat z = true) : VL m z.cells.toList z.cells.toList := (flat_refl (m := m) h).cells (flat_boxable h)
theorem VL.replicate {m : Mp} {l l' : List Value} (h : VL m l l') : ∀ n, VL m (List.replicate n l).flatten (List.replicate n l').flatten
  | 0 => .nil
  | n + 1 => by rw [List.replicate_succ, List.replicate_succ, List.flatten_cons, List.flatten_cons]; exact h.append (VL.replicate h n)

/-- What a new block is on the true side. -/
def ObRel (m : Mp) (ob : Ob) (ob' : Obj) : Prop :=
  (∃ cs cs' e, ob = .row cs e (.rw 0 []) ∧ ob' = .cells cs' e (0, 0) ∧ VL m cs cs'.toList) ∨ (ob = .map [] 0 ∧ ob' = .map #[] 0)

theorem evNew_sound {P : Program} {m : Mp} {nt : Nat} {fr : Fr} {a : Act} (hf : FrRel m nt fr a.tmps) {o : Oper} {ob : Ob} {mk : Nat → Value} (e : evNew P fr o = some (ob, mk)) :
    ∃ (ob' : Obj) (mk' : Nat → Value), (∀ w, (execOp a.eval o).run P w = .ok (.value (mk' w.heap.size)) { w with heap := w.heap.push ob' }) ∧ ObRel m ob ob' ∧
      ∀ (m' : Mp) (b c : Nat), m' b = some ⟨c, 0⟩ → VRel m' (mk b) (mk' c) := by
  unfold evNew at e
  split at e
  · rename_i t ho
    simp only [Option.bind_eq_some_iff] at e
    obtain ⟨z, hz, e⟩ := e
    cases hfz : flat z with
    | false => rw [hfz] at e; simp at e
    | true =>
      rw [hfz] at e; simp only [Bool.not_true, cond_false, Option.some.injEq, Prod.mk.injEq] at e
      obtain ⟨rfl, rfl⟩ := e
      refine ⟨.cells z.cells t (0, 0), fun c => .pointer (some ⟨c, 0, none⟩), fun w => ?_, .inl ⟨_, _, _, rfl, rfl, flat_cells hfz⟩, fun m' b c hm => .ptr hm⟩
      simp [execOp, ho, Instr.alloc, run_zeroValue hz, newVar, newRow]
  · rename_i t x ho
    simp only [Option.bind_eq_some_iff] at e
    obtain ⟨v, hv, e⟩ := e
    have hbx : boxable v = true := by
      cases hb : boxable v with
      | true => rfl
      | false => rw [hb] at e; simp at e
    rw [hbx] at e
    simp only [cond_true, Option.some.injEq, Prod.mk.injEq] at e
    obtain ⟨rfl, rfl⟩ := e
    refine ⟨.cells (a.eval x).cells t (0, 0), fun c => .pointer (some ⟨c, 0, none⟩), fun w => ?_, .inl ⟨_, _, _, rfl, rfl, (ev1_sound hf hv).cells hbx⟩, fun m' b c hm => .ptr hm⟩
    simp [execOp, ho, Instr.box, newVar, newRow]
  · rename_i t len parts ho
    simp only [Option.bind_eq_some_iff] at e
    obtain ⟨el, hel, n, hn, z, hz, e⟩ := e
    cases hd : (decide (len * n ≤ 2 ^ 24) && (z.cells.size == n) && flat z) with
    | false => rw [hd] at e; simp at e
    | true =>
      rw [hd] at e
      simp only [cond_true, Option.bind_eq_some_iff, Option.map_eq_some_iff, Prod.mk.injEq] at e
      simp only [Bool.and_eq_true, decide_eq_true_eq, beq_iff_eq] at hd
      obtain ⟨⟨h1, h2⟩, h3⟩ := hd
      obtain ⟨ps, hps, cs, hcs, rfl, rfl⟩ := e
      have hzero : ((Array.range (len * n)).map fun i => z.cells[i % z.cells.size]!).toList = (List.replicate len z.cells.toList).flatten := by
        rw [← h2]; exact range_flatten z.cells len
      have hp := evParts_sound hf hps
      obtain ⟨r', g1, g2⟩ := fill_sound (cs' := if len * n = 0 then #[] else ((Array.range (len * n)).map fun i => z.cells[i % z.cells.size]!)) hp (by
        split
        · rename_i h0
          have : (List.replicate len z.cells.toList).flatten = [] := by rw [← hzero, h0]; simp
          rw [this]; exact .nil
        · rw [hzero]; exact (flat_cells h3).replicate len) hcs
      refine ⟨.cells r' el (0, 0), fun c => .slice (some ⟨c, 0, none⟩) len len, fun w => ?_, .inl ⟨_, _, _, rfl, rfl, g2⟩, fun m' b c hm => slc_exact hm (Nat.le_refl _)⟩
      have h1' : ¬ len * n > 2 ^ 24 := by omega
      have hpp : (parts.map fun (x : Nat × Operand) => (x.1, a.eval x.2)).toList = parts.toList.map fun (x : Nat × Operand) => (x.1, a.eval x.2) := by simp
      by_cases h0 : len * n = 0
      · rw [if_pos h0] at g1
        simp only [execOp, ho, Instr.buildSlice, Sem.run_bind, run_underlying (tSliceElem_spec hel), Result.andThen_ok, run_sizeOf hn, Sem.run_ite, if_neg h1', if_pos h0, Sem.run_pure, hpp]
        have er : Array.range 0 = #[] := Array.toList_inj.1 (by simp)
        have g1' : Instr.fill (fun i => some (i * n, n)) #[] (parts.toList.map fun (x : Nat × Operand) => (x.1, a.eval x.2)) = some r' := g1
        simp [h0, er, g1', newRow]
      · rw [if_neg h0] at g1
        simp only [execOp, ho, Instr.buildSlice, Sem.run_bind, run_underlying (tSliceElem_spec hel), Result.andThen_ok, run_sizeOf hn, Sem.run_ite, if_neg h1', if_neg h0, Sem.run_pure, run_zeroValue hz, hpp]
        rw [g1]
        simp [newRow]
  · rename_i t r ho
    cases hd : ((tMap P t).isSome && r.isNone) with
    | false => rw [hd] at e; simp at e
    | true =>
      rw [hd] at e; simp only [cond_true, Option.some.injEq, Prod.mk.injEq] at e
      obtain ⟨rfl, rfl⟩ := e
      simp only [Bool.and_eq_true, Option.isNone_iff_eq_none] at hd
      obtain ⟨_, rfl⟩ := hd
      refine ⟨.map #[] 0, fun c => .map (some c), fun w => ?_, .inr ⟨rfl, rfl⟩, fun m' b c hm => .mp hm⟩
      simp [execOp, ho, Instr.makeMap]
  · rename_i t l c ho
    simp only [Option.bind_eq_some_iff] at e
    obtain ⟨lv, hl, cv, hc, e⟩ := e
    have hlr := ev1_sound hf hl
    have hcr := ev1_sound hf hc
    split at e
    · rename_i l' c'
      generalize hel' : a.eval l = ll at hlr
      generalize hec' : a.eval c = cc at hcr
      cases hlr; cases hcr
      simp only [Option.bind_eq_some_iff] at e
      obtain ⟨el, hel, n, hn, by_, hb, z, hz, e⟩ := e
      cases hd : (decide (0 ≤ l') && decide (l' ≤ c') && decide (c' * ((by_ : Int) + 1) ≤ 2 ^ 47) && (z.cells.size == n) && flat z) with
      | false => rw [hd] at e; simp at e
      | true =>
        rw [hd] at e
        simp only [cond_true, Option.some.injEq, Prod.mk.injEq] at e
        simp only [Bool.and_eq_true, decide_eq_true_eq, beq_iff_eq] at hd
        obtain ⟨⟨⟨⟨h1, h2⟩, h3⟩, h4⟩, h5⟩ := hd
        obtain ⟨rfl, rfl⟩ := e
        have hc47 : c' ≤ 2 ^ 47 := by
          have : c' * 1 ≤ c' * ((by_ : Int) + 1) := Int.mul_le_mul_of_nonneg_left (by omega) (by omega)
          omega
        have hbc : (by_ : Int) * c' ≤ 2 ^ 47 := by
          have : c' * (by_ : Int) ≤ c' * ((by_ : Int) + 1) := Int.mul_le_mul_of_nonneg_left (by omega) (by omega)
          rw [Int.mul_comm]; omega
        have hwl : IntKind.i64.wrap l' = l' := IntWalk.i64_in _ (by omega)
        have hwc : IntKind.i64.wrap c' = c' := IntWalk.i64_in _ (by omega)
        unfold tBytes at hb
        rw [Option.map_eq_some_iff] at hb
        obtain ⟨ti, hti, rfl⟩ := hb
        have hzero : ((Array.range (c'.toNat * n)).map fun i => z.cells[i % z.cells.size]!).toList = (List.replicate c'.toNat z.cells.toList).flatten := by
          rw [← h4]; exact range_flatten z.cells _
        refine ⟨.cells ((Array.range (c'.toNat * n)).map fun i => (if c'.toNat * n = 0 then #[] else z.cells)[i % (if c'.toNat * n = 0 then #[] else z.cells).size]!) el (0, 0),
          fun x => .slice (some ⟨x, 0, none⟩) l'.toNat c'.toNat, fun w => ?_, .inl ⟨_, _, _, rfl, rfl, ?_⟩, fun m' b x hm => slc_exact hm (by omega)⟩
        · have er : Array.range 0 = #[] := Array.toList_inj.1 (by simp)
          have t1 : ¬ 281474976710656 < (ti.bytes : Int) * c' := by omega
          have t2 : ¬ c' < 0 := by omega
          have t3 : ¬ l' < 0 := by omega
          have t4 : ¬ l' > c' := by omega
          by_cases h0 : c'.toNat * n = 0
          · simp [execOp, ho, hel', hec', Instr.makeSlice, run_underlying (tSliceElem_spec hel), asInt, asIntOf, run_typeInfo hti, hwl, hwc, t1, t2, t3, t4, run_sizeOf hn, h0, er, newRow]
          · simp [execOp, ho, hel', hec', Instr.makeSlice, run_underlying (tSliceElem_spec hel), asInt, asIntOf, run_typeInfo hti, hwl, hwc, t1, t2, t3, t4, run_sizeOf hn, h0, run_zeroValue hz, newRow]
        · by_cases h0 : c'.toNat * n = 0
          · rw [← hzero, h0]; simp; exact .nil
          · simp only [if_neg h0]; rw [hzero]; exact (flat_cells h5).replicate _
    · cases e
  · cases e

end Go.Ev
