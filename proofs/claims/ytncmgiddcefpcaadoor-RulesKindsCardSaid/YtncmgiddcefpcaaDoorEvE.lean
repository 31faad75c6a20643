/- The abstract heap and the true one; operations that read. -/
import Derived.Test.YtncmgiddcefpcaaDoorEvD
import Derived.Laws.BytesString
import Derived.Laws.Cells
namespace Go.Ev
open Go
set_option linter.unusedSimpArgs false
set_option linter.unusedVariables false

/-- Entries of two maps. -/
inductive EL (m : Mp) : List MapEntry → List MapEntry → Prop
  | nil : EL m [] []
  | cons {e e' : MapEntry} {l l' : List MapEntry} (hk : e'.key = e.key) (hf : flat e.key = true) (hv : VRel m e.val e'.val) (hb : e'.born = e.born) (t : EL m l l') : EL m (e :: l) (e' :: l')
theorem EL.mono {m m' : Mp} (hm : m.le m') {l l' : List MapEntry} (h : EL m l l') : EL m' l l' := by
  induction h with
  | nil => exact .nil
  | cons hk hf hv hb t ih => exact .cons hk hf (hv.mono hm) hb ih
theorem EL.length {m : Mp} {l l' : List MapEntry} (h : EL m l l') : l.length = l'.length := by
  induction h with
  | nil => rfl
  | cons hk hf hv hb t ih => simp [ih]
theorem EL.getElem? {m : Mp} {l l' : List MapEntry} (h : EL m l l') : ∀ (i : Nat) {e : MapEntry}, l[i]? = some e → ∃ e', l'[i]? = some e' ∧ e'.key = e.key ∧ flat e.key = true ∧ VRel m e.val e'.val ∧ e'.born = e.born := by
  induction h with
  | nil => intro i e h; simp at h
  | cons hk hf hv hb t ih =>
    intro i e h
    cases i with
    | zero => simp at h; subst h; exact ⟨_, rfl, hk, hf, hv, hb⟩
    | succ i => simp at h; simpa using ih i h
theorem EL.append {m : Mp} {a a' b b' : List MapEntry} (h : EL m a a') (k : EL m b b') : EL m (a ++ b) (a' ++ b') := by
  induction h with
  | nil => exact k
  | cons hk hf hv hb t ih => exact .cons hk hf hv hb ih
theorem EL.eraseIdx {m : Mp} {l l' : List MapEntry} (h : EL m l l') : ∀ i, EL m (l.eraseIdx i) (l'.eraseIdx i) := by
  induction h with
  | nil => intro i; simp; exact .nil
  | cons hk hf hv hb t ih => intro i; cases i with
    | zero => exact t
    | succ i => exact .cons hk hf hv hb (ih i)
theorem EL.set {m : Mp} {l l' : List MapEntry} (h : EL m l l') {k v v' : Value} (hk : flat k = true) (hv : VRel m v v') : ∀ (i : Nat) {e e' : MapEntry}, l[i]? = some e → l'[i]? = some e' →
    EL m (l.set i { e with key := k, val := v }) (l'.set i { e' with key := k, val := v' }) := by
  induction h with
  | nil => intro i e e' h; simp at h
  | cons hk' hf' hv' hb' t ih =>
    intro i e e' h h'
    cases i with
    | zero => simp at h h'; subst h; subst h'; exact .cons rfl hk hv hb' t
    | succ i => simp at h h'; exact .cons hk' hf' hv' hb' (ih i h h')

def liveO : Option Ob → Prop
  | some (.row _ _ (.rw _ _)) => True
  | some (.map _ _) => True
  | _ => False
def live (h : Hp) (b : Nat) : Prop := liveO (h.get b)
def inertO : Option Ob → Prop
  | none => True
  | some (.row _ _ .dead) => True
  | _ => False
def inert (h : Hp) (b : Nat) : Prop := inertO (h.get b)
def notDead : St → Prop
  | .dead => False
  | _ => True
/-- An elder version of a block that grew. -/
def Elder (h : Hp) (b b' : Nat) : Prop := ∃ cs e base olds cs2 e2, h.get b = some (.row cs e (.rw base olds)) ∧ b' ∈ olds ∧ h.get b' = some (.row cs2 e2 .ro) ∧ cs2.length ≤ base

structure Rep (P : Program) (m : Mp) (h : Hp) (w : World) : Prop where
  rng : ∀ b L, m b = some L → L.blk < w.heap.size
  frs : ∀ b, h.next ≤ b → h.get b = none ∧ m b = none
  row : ∀ b cs e st, h.get b = some (.row cs e st) → notDead st → ∃ L cs' fz, m b = some L ∧ w.heap[L.blk]? = some (.cells cs' e fz) ∧ VL m cs (cs'.toList.take cs.length)
  rw : ∀ b cs e base olds, h.get b = some (.row cs e (.rw base olds)) → ∃ L cs' n, m b = some L ∧ w.heap[L.blk]? = some (.cells cs' e (0, 0)) ∧ (tSize P e = some n ∨ L.extra = 0) ∧ cs'.size = cs.length + L.extra * n
  map : ∀ b es ck, h.get b = some (.map es ck) → ∃ L es', m b = some L ∧ w.heap[L.blk]? = some (.map es' ck) ∧ EL m es es'.toList
  sep : ∀ b b' L L', live h b → b ≠ b' → m b = some L → m b' = some L' → L.blk = L'.blk → inert h b' ∨ Elder h b b'

theorem Rep.drew {P : Program} {m : Mp} {h : Hp} {w : World} (r : Rep P m h w) : Rep P m h { w with drawn := w.drawn + 1 } :=
  ⟨r.rng, r.frs, r.row, r.rw, r.map, r.sep⟩

theorem rowOf_spec {h : Hp} {b : Nat} {cs : List Value} (e : rowOf h b = some cs) : ∃ el st, h.get b = some (.row cs el st) ∧ notDead st := by
  unfold rowOf at e
  split at e
  · cases e
  · rename_i cs' el st hg hb
    simp at e; subst e
    refine ⟨el, st, hb, ?_⟩
    cases st with
    | dead => simp_all
    | _ => trivial
  · cases e

theorem cell?_of {w : World} {c o : Nat} {cs : Array Value} {e : TypeId} {fz : Nat × Nat} (h : w.heap[c]? = some (.cells cs e fz)) : w.cell? ⟨c, o, none⟩ = cs[o]? := by
  simp [World.cell?, h]

/-- The cells of a row, as the true memory has them. -/
theorem Rep.cell {P : Program} {m : Mp} {h : Hp} {w : World} (r : Rep P m h w) {b : Nat} {cs : List Value} (e : rowOf h b = some cs) : ∃ L cs' el fz, m b = some L ∧ w.heap[L.blk]? = some (.cells cs' el fz) ∧ VL m cs (cs'.toList.take cs.length) ∧
    cs.length ≤ cs'.size := by
  obtain ⟨el, st, hg, hn⟩ := rowOf_spec e
  obtain ⟨L, cs', fz, h1, h2, h3⟩ := r.row b cs el st hg hn
  refine ⟨L, cs', el, fz, h1, h2, h3, ?_⟩
  have := h3.length
  simp at this
  omega

/-- Cells read one by one. -/
theorem run_cells {P : Program} {w : World} {c o : Nat} {cs : Array Value} {e : TypeId} {fz : Nat × Nat} (h : w.heap[c]? = some (.cells cs e fz)) (l : List Value) (hl : ∀ j v, l[j]? = some v → cs[o + j]? = some v) :
    (loadCells ⟨c, o, none⟩ l.length).run P w = .ok l.toArray w :=
  run_loadCells_list w _ l fun j v hv => by rw [Addr_add0 _ rfl, cell?_of h]; exact hl j v hv

theorem take_of_VL {m : Mp} {cs : List Value} {cs' : Array Value} (h : VL m cs (cs'.toList.take cs.length)) (o n : Nat) (hn : o + n ≤ cs.length) : ∃ l, l.length = n ∧ VL m ((cs.drop o).take n) l ∧ ∀ (j : Nat) (v : Value), l[j]? = some v → cs'[o + j]? = some v := by
  have hlen := h.length
  simp at hlen
  refine ⟨((cs'.toList.take cs.length).drop o).take n, by simp; omega, (h.drop o).take n, fun j v hv => ?_⟩
  rw [List.getElem?_take] at hv
  split at hv
  · rw [List.getElem?_drop, List.getElem?_take] at hv
    split at hv
    · simpa using hv
    · cases hv
  · cases hv

theorem evPart_load {P : Program} {m : Mp} {w : World} {t : TypeId} {cs : List Value} {cs' : Array Value} {el : TypeId} {fz : Nat × Nat} {c o : Nat} {v : Value} (h : evPart P t cs o = some v)
    (hh : w.heap[c]? = some (.cells cs' el fz)) (hr : VL m cs (cs'.toList.take cs.length)) :
    ∃ v', (loadVar t ⟨c, o, none⟩).run P w = .ok v' w ∧ VRel m v v' := by
  unfold evPart at h
  split at h
  · rename_i ha
    rw [Option.bind_eq_some_iff] at h
    obtain ⟨n, hn, h⟩ := h
    cases hd : decide (o + n ≤ cs.length) with
    | false => rw [hd] at h; simp at h
    | true =>
      rw [hd] at h; simp at h hd; subst h
      obtain ⟨l, hl, hv, hc⟩ := take_of_VL hr o n hd
      refine ⟨.agg l.toArray, ?_, .agg (by simpa using hv)⟩
      have := run_cells (P := P) hh l hc
      rw [hl] at this
      simp [loadVar, run_isAgg ha, run_sizeOf hn, this]
  · rename_i ha
    obtain ⟨v', e', r⟩ := hr.getElem? o h
    rw [List.getElem?_take] at e'
    split at e'
    · refine ⟨v', ?_, r⟩
      simp at e'
      simp [loadVar, run_isAgg ha, load, Sem.run, cell?_of hh, e']
    · cases e'
  · cases h

theorem evLoad_sound {P : Program} {m : Mp} {h : Hp} {w : World} (r : Rep P m h w) {t : TypeId} {v v' u : Value} (e : evLoad P t v h = some u) (hv : VRel m v v') :
    ∃ u', (Instr.loadAt t v').run P w = .ok u' w ∧ VRel m u u' := by
  unfold evLoad at e
  split at e
  · rename_i b o
    rw [Option.bind_eq_some_iff] at e
    obtain ⟨cs, hc, e⟩ := e
    obtain ⟨L, cs', el, fz, h1, h2, h3, _⟩ := r.cell hc
    cases hv with
    | ptr hL =>
      rename_i L2
      have : L2 = L := by rw [hL] at h1; exact Option.some.inj h1
      subst this
      obtain ⟨u', g1, g2⟩ := evPart_load e h2 h3
      exact ⟨u', by simp [Instr.loadAt, Instr.sureAddr, g1], g2⟩
  · cases e

theorem scals_ints {l : List UInt8} {m : Mp} : VL m (l.map fun b => Value.int .u8 b.toNat) (l.map fun b => Value.int .u8 b.toNat) := by
  induction l with
  | nil => exact .nil
  | cons x l ih => exact .cons (.int _ _) ih

theorem evCells_sound {P : Program} {m : Mp} {h : Hp} {w : World} (r : Rep P m h w) {size n : Nat} {v v' : Value} {cs : List Value} (e : evCells size n v h = some cs) (hv : VRel m v v')
    (hn : ∀ k, lenOf v = some k → n ≤ k) : ∃ cs', (Builtin.firstCells size n v').run P w = .ok cs' w ∧ VL m cs cs'.toList ∧ (∀ a l c, v = .slice a l c → cs.length = n * size) := by
  unfold evCells at e
  split at e
  · rename_i l c
    simp at e; subst e
    cases hv with
    | nils =>
      have := hn 0 rfl
      refine ⟨#[], by simp [Builtin.firstCells], .nil, fun a l c _ => ?_⟩
      have : n = 0 := by omega
      subst this; simp
  · rename_i b o l c
    cases hz : n * size == 0 with
    | true =>
      have hz0 : n * size = 0 := beq_iff_eq.1 hz
      rw [hz] at e; simp at e; subst e
      cases hv with
      | slc hL hl hc ha =>
        rename_i cap' L a
        refine ⟨#[], ?_, .nil, fun _ _ _ _ => by rw [hz0]; rfl⟩
        · have : (loadCells a (n * size)).run P w = .ok #[] w := by
            rw [hz0]; rfl
          simp [Builtin.firstCells, this]
    | false =>
      rw [hz] at e; simp only [cond_false, Option.bind_eq_some_iff] at e
      obtain ⟨xs, hx, e⟩ := e
      cases hd : decide (o + n * size ≤ xs.length) with
      | false => rw [hd] at e; simp at e
      | true =>
        rw [hd] at e; simp at e hd; subst e
        obtain ⟨L, cs', el, fz, h1, h2, h3, _⟩ := r.cell hx
        cases hv with
        | slc hL hl hc ha =>
          rename_i cap' L2 a
          have : L2 = L := by rw [hL] at h1; exact Option.some.inj h1
          subst this
          have hnl := hn l rfl
          have hpos : 0 < n := by
            rcases Nat.eq_zero_or_pos n with h0 | h0
            · subst h0; simp at hz
            · exact h0
          have ha := ha.resolve_right (by omega)
          subst ha
          obtain ⟨l', hl', hv, hcc⟩ := take_of_VL h3 o (n * size) hd
          refine ⟨l'.toArray, ?_, by simpa using hv, fun _ _ _ _ => ?_⟩
          · have := run_cells (P := P) h2 l' hcc
            rw [hl'] at this
            simp [Builtin.firstCells, this]
          · rw [hv.length, hl']
  · rename_i s
    simp only [Option.some.injEq] at e; subst e
    cases hv
    refine ⟨((s.extract 0 n).data.map fun b => .int .u8 b.toNat), by simp [Builtin.firstCells], ?_, fun a l c h => by cases h⟩
    rw [Array.toList_map]
    exact scals_ints
  · cases e

theorem toBytes_spec : ∀ {cs : List Value} {l : List UInt8}, toBytes cs = some l → ∃ ns : List Int, cs = ns.map (Value.int .u8) ∧ ∀ s : ByteArray, ns.foldl (fun r n => r.push (UInt8.ofNat n.toNat)) s = ⟨(s.data.toList ++ l).toArray⟩
  | [], l, h => by simp [toBytes] at h; subst h; exact ⟨[], rfl, fun s => by simp⟩
  | c :: cs, l, h => by
    unfold toBytes at h
    split at h
    · rename_i heq; cases heq
    · rename_i n l2 heq
      simp only [List.cons.injEq] at heq
      obtain ⟨rfl, rfl⟩ := heq
      rw [Option.map_eq_some_iff] at h
      obtain ⟨l', h', rfl⟩ := h
      obtain ⟨ns, e1, e2⟩ := toBytes_spec h'
      refine ⟨n :: ns, by simp [e1], fun s => ?_⟩
      simp only [List.foldl_cons, e2]
      congr 1
      simp [ByteArray.push]
    · cases h

theorem mapOf_sound {P : Program} {m : Mp} {h : Hp} {w : World} (r : Rep P m h w) {v v' : Value} {es : List MapEntry} (e : mapOf h v = some es) (hv : VRel m v v') :
    ∃ es' : Array MapEntry, EL m es es'.toList ∧ ((v' = .map none ∧ es' = #[]) ∨ ∃ r' ck, v' = .map (some r') ∧ w.heap[r']? = some (.map es' ck)) := by
  unfold mapOf at e
  split at e
  · simp at e; subst e; cases hv; exact ⟨#[], .nil, .inl ⟨rfl, rfl⟩⟩
  · rename_i b
    split at e
    · rename_i es2 ck hg
      simp at e; subst e
      obtain ⟨L, es', h1, h2, h3⟩ := r.map b es2 ck hg
      cases hv with
      | mp hL =>
        rename_i L2
        have : L2 = L := by rw [hL] at h1; exact Option.some.inj h1
        subst this
        exact ⟨es', h3, .inr ⟨_, _, rfl, h2⟩⟩
    · cases e
  · cases e

/-! ### keys -/
theorem prun_bind {α β : Type} {P : Program} : ∀ (s : Sem α) (f : α → Sem β), prun P (s >>= f) = (prun P s).bind fun a => prun P (f a) := by
  intro s
  induction s with
  | pure a => intro f; rfl
  | program k ih => intro f; exact ih P f
  | mark mk k ih => intro f; exact ih f
  | _ => intro f; rfl

inductive FR (m : Mp) : Option (Nat × Value) → Option (Nat × Value) → Prop
  | none : FR m none none
  | some {i : Nat} {v v' : Value} (h : VRel m v v') : FR m (some (i, v)) (some (i, v'))

theorem findNow_rel {m : Mp} {kd : TypeDesc} {k : Value} {l l' : List MapEntry} (h : EL m l l') : ∀ i, (Instr.findNow kd k l i = none → Instr.findNow kd k l' i = none) ∧
    ∀ r, Instr.findNow kd k l i = some r → ∃ r', Instr.findNow kd k l' i = some r' ∧ FR m r r' := by
  induction h with
  | nil => intro i; exact ⟨fun h => h, fun r h => by simp [Instr.findNow] at h; subst h; exact ⟨_, rfl, .none⟩⟩
  | cons hk hf hv hb t ih =>
    intro i
    simp only [Instr.findNow, hk]
    cases hs : Instr.sameNow kd k _ with
    | none => exact ⟨fun _ => rfl, fun r h => by simp at h⟩
    | some b => cases b with
      | true => exact ⟨fun h => by simp at h, fun r h => by simp at h; subst h; exact ⟨_, rfl, .some hv⟩⟩
      | false => exact ih (i + 1)

theorem findAsking_rel {P : Program} {m : Mp} {kt : TypeId} {k : Value} {l l' : List MapEntry} (h : EL m l l') : ∀ i r, prun P (Instr.findAsking kt k l i) = some r →
    ∃ r', (∀ w, (Instr.findAsking kt k l' i).run P w = .ok r' w) ∧ FR m r r' := by
  induction h with
  | nil => intro i r h; simp only [Instr.findAsking] at h; exact ⟨none, fun w => rfl, by cases h; exact .none⟩
  | cons hk hf hv hb t ih =>
    intro i r h
    simp only [Instr.findAsking, prun_bind, Option.bind_eq_some_iff] at h
    obtain ⟨b, hb, h⟩ := h
    have hrun := fun w => prun_sound hb w
    cases b with
    | true =>
      simp only [if_true] at h
      cases h
      exact ⟨_, fun w => by simp [Instr.findAsking, hk, hrun w], .some hv⟩
    | false =>
      simp only [Bool.false_eq_true, if_false] at h
      obtain ⟨r', h1, h2⟩ := ih (i + 1) r h
      exact ⟨r', fun w => by simp [Instr.findAsking, hk, hrun w, h1 w], h2⟩

theorem findKey_rel {P : Program} {m : Mp} {kt : TypeId} {k : Value} {l l' : List MapEntry} (h : EL m l l') {r : Option (Nat × Value)} (e : prun P (Instr.findKey kt k l) = some r) :
    ∃ r', (∀ w, (Instr.findKey kt k l').run P w = .ok r' w) ∧ FR m r r' := by
  simp only [Instr.findKey, prun_bind, Option.bind_eq_some_iff] at e
  obtain ⟨kd, hk, e⟩ := e
  have hk' := fun w => prun_sound hk w
  obtain ⟨h0, h1⟩ := findNow_rel (kd := kd) (k := k) h 0
  cases hf : Instr.findNow kd k l 0 with
  | none =>
    rw [hf] at e
    obtain ⟨r', g1, g2⟩ := findAsking_rel h 0 r e
    exact ⟨r', fun w => by simp [Instr.findKey, hk' w, h0 hf, g1 w], g2⟩
  | some x =>
    rw [hf] at e
    cases e
    obtain ⟨r', g1, g2⟩ := h1 _ hf
    exact ⟨r', fun w => by simp [Instr.findKey, hk' w, g1], g2⟩

theorem look_rel {P : Program} {m : Mp} {kt : TypeId} {k : Value} {l l' : List MapEntry} (h : EL m l l') {b : Bool} {r : Option (Nat × Value)}
    (e : prun P (do Instr.checkKey b 10000 kt k; Instr.findKey kt k l) = some r) :
    (∀ w, (Instr.checkKey b 10000 kt k).run P w = .ok () w) ∧ ∃ r', (∀ w, (Instr.findKey kt k l').run P w = .ok r' w) ∧ FR m r r' := by
  simp only [prun_bind, Option.bind_eq_some_iff] at e
  obtain ⟨u, h1, h2⟩ := e
  exact ⟨fun w => prun_sound h1 w, findKey_rel h h2⟩

theorem EL.isEmpty {m : Mp} {l : List MapEntry} {a : Array MapEntry} (h : EL m l a.toList) : a.isEmpty = l.isEmpty := by
  have := h.length
  cases l with
  | nil => simp at this; simp [Array.isEmpty, this]
  | cons x l => simp at this; simp [Array.isEmpty]; intro h; rw [h] at this; simp at this

theorem evLookup_sound {P : Program} {m : Mp} {h : Hp} {w : World} (r : Rep P m h w) {t : TypeId} {x x' k k' v : Value} {ok : Bool} (e : evLookup P t x k ok h = some v) (hx : VRel m x x') (hk : VRel m k k') :
    ∃ v', (Instr.lookup t x' k' ok).run P w = .ok v' w ∧ VRel m v v' := by
  simp only [evLookup, Option.bind_eq_some_iff] at e
  obtain ⟨⟨kt, et⟩, ht, e⟩ := e
  simp only at e
  cases hf : flat k with
  | false => rw [hf] at e; simp at e
  | true =>
    rw [hf] at e
    simp only [Bool.not_true, cond_false, Option.bind_eq_some_iff] at e
    obtain ⟨es, hes, res, hres, e⟩ := e
    rw [hk.flat_eq hf]
    obtain ⟨es', h1, h2⟩ := mapOf_sound r hes hx
    obtain ⟨hck, r', hr1, hr2⟩ := look_rel h1 hres
    have hrun : ∀ u b2, (match r' with | some (_, v) => v = u ∧ b2 = true | none => tZero P et = some u ∧ b2 = false) →
        (Instr.lookup t x' k ok).run P w = .ok (if ok then .tuple #[u, .bool b2] else u) w := by
      intro u b2 hu
      rcases h2 with ⟨rfl, rfl⟩ | ⟨b, ck, rfl, hh⟩
      · have hr1 := fun w => hr1 w
        simp only [Instr.lookup, Sem.run_bind, run_underlying (tMap_spec ht), Result.andThen_ok, Sem.run_pure]
        have he := h1.isEmpty
        rw [he]
        simp only [hck, Result.andThen_ok, hr1]
        cases r' with
        | none => obtain ⟨hz, rfl⟩ := hu; simp [run_zeroValue hz]
        | some p => obtain ⟨i, v⟩ := p; obtain ⟨rfl, rfl⟩ := hu; simp
      · simp only [Instr.lookup, Sem.run_bind, run_underlying (tMap_spec ht), Result.andThen_ok, Sem.run_pure, getObj, Sem.run, hh]
        have he := h1.isEmpty
        rw [he]
        simp only [hck, Result.andThen_ok, hr1]
        cases r' with
        | none => obtain ⟨hz, rfl⟩ := hu; simp [run_zeroValue hz]
        | some p => obtain ⟨i, v⟩ := p; obtain ⟨rfl, rfl⟩ := hu; simp
    cases hr2 with
    | none =>
      simp only [Option.bind_eq_some_iff] at e
      obtain ⟨z, hz, e⟩ := e
      cases hfz : flat z with
      | false => rw [hfz] at e; simp at e
      | true =>
        rw [hfz] at e; simp only [cond_true, Option.some.injEq] at e; subst e
        refine ⟨_, hrun z false ⟨hz, rfl⟩, ?_⟩
        cases ok
        · exact flat_refl hfz
        · exact .tuple (.cons (flat_refl hfz) (.cons (.bool _) .nil))
    | some hv =>
      rename_i i u u'
      simp only [Option.some.injEq] at e; subst e
      refine ⟨_, hrun u' true ⟨rfl, rfl⟩, ?_⟩
      cases ok
      · exact hv
      · exact .tuple (.cons hv (.cons (.bool _) .nil))

/-! ### pointers compared -/
theorem alive_spec {h : Hp} {b : Nat} (e : evRead.alive h b = true) : ∃ cs el, h.get b = some (.row cs el (.rw 0 [])) := by
  unfold evRead.alive at e
  split at e
  · rename_i cs el hg; exact ⟨_, _, hg⟩
  · cases e

theorem Rep.apart {P : Program} {m : Mp} {h : Hp} {w : World} (r : Rep P m h w) {a b : Nat} {La Lb : Loc} (ha : evRead.alive h a = true) (hb : evRead.alive h b = true) (hma : m a = some La) (hmb : m b = some Lb) (hab : a ≠ b) : La.blk ≠ Lb.blk := by
  intro he
  obtain ⟨cs, el, hg⟩ := alive_spec ha
  obtain ⟨cs2, el2, hg2⟩ := alive_spec hb
  rcases r.sep a b La Lb (by simp [live, liveO, hg]) hab hma hmb he with h1 | ⟨_, _, _, olds, _, _, h1, h2, h3, _⟩
  · simp [inert, inertO, hg2] at h1
  · rw [hg] at h1; simp at h1; obtain ⟨_, _, _, rfl⟩ := h1; simp at h2

theorem frozen_of {w : World} {c o : Nat} {cs : Array Value} {e : TypeId} (h : w.heap[c]? = some (.cells cs e (0, 0))) : w.frozen? ⟨c, o, none⟩ = false := by
  simp [World.frozen?, h]
theorem shape_of {w : World} {c : Nat} {cs : Array Value} {e : TypeId} {fz : Nat × Nat} (h : w.heap[c]? = some (.cells cs e fz)) : w.shape? c = some (e, cs.size) := by
  simp [World.shape?, h]

theorem run_sameAddr {P : Program} {w : World} {a b : Nat} {i j : Nat} {ca cb : Array Value} {ea eb : TypeId} (ha : w.heap[a]? = some (.cells ca ea (0, 0))) (hb : w.heap[b]? = some (.cells cb eb (0, 0))) :
    (sameAddr ⟨a, i, none⟩ ⟨b, j, none⟩).run P w = .ok (a == b && i == j) w := by
  unfold sameAddr
  by_cases hab : a = b
  · subst hab
    have e1 : (a == a) = true := beq_self_eq_true a
    by_cases hij : i = j
    · subst hij; simp
    · have e2 : (i == j) = false := beq_eq_false_iff_ne.2 hij
      simp [e2, hij]
  · have hab' : (a == b) = false := beq_eq_false_iff_ne.2 hab
    simp [hab, frozen_of ha, frozen_of hb, noView, viewAt, shape_of ha, shape_of hb, mayBeOne, stringish]

theorem tPtr2_spec {P : Program} {t : TypeId} (h : evRead.tPtr P t = true) : ∃ e n, P.underlying t = some (.pointer e) ∧ tSize P e = some (n + 1) := by
  unfold evRead.tPtr at h
  split at h
  · rename_i e hu
    split at h
    · rename_i n hn; exact ⟨e, n, hu, hn⟩
    · cases h
  · cases h

theorem run_eqIn_ptrs {P : Program} {t : TypeId} {e : TypeId} {n : Nat} (hu : P.underlying t = some (.pointer e)) (hn : tSize P e = some (n + 1)) (a b : Addr) (w : World) (d : Nat) :
    (Op.equalIn (d + 1) t (.pointer (some a)) (.pointer (some b))).run P w = (sameAddr a b).run P w := by
  simp [Op.equalIn, run_underlying hu, run_sizeOf hn]
theorem run_eqPtrs {P : Program} {t : TypeId} {e : TypeId} {n : Nat} (hu : P.underlying t = some (.pointer e)) (hn : tSize P e = some (n + 1)) (a b : Addr) (w : World) :
    (Op.equal t (.pointer (some a)) (.pointer (some b))).run P w = (sameAddr a b).run P w := run_eqIn_ptrs hu hn a b w 9999

theorem evPtrs_sound {P : Program} {m : Mp} {h : Hp} {w : World} (r : Rep P m h w) {t : TypeId} {a b i j : Nat} {x' y' : Value} (hx : VRel m (.pointer (some ⟨a, i, none⟩)) x') (hy : VRel m (.pointer (some ⟨b, j, none⟩)) y')
    (e : (evRead.tPtr P t && evRead.alive h a && evRead.alive h b) = true) (xo yo : Operand) (op : BinOp) (hop : op = .eql ∨ op = .neq) :
    (do eqGuard op t xo yo x' y'; binOp op t x' y' : Sem Value).run P w = .ok (.bool (if op = .eql then (a == b && i == j) else !(a == b && i == j))) w := by
  simp only [Bool.and_eq_true] at e
  obtain ⟨⟨h1, h2⟩, h3⟩ := e
  obtain ⟨el, n, hu, hn⟩ := tPtr2_spec h1
  cases hx with
  | ptr hLa => cases hy with
    | ptr hLb =>
      rename_i La Lb
      obtain ⟨ca, ea, ga⟩ := alive_spec h2
      obtain ⟨cb, eb, gb⟩ := alive_spec h3
      obtain ⟨La', ca', na, k1, k2, k3, k4⟩ := r.rw _ _ _ _ _ ga
      obtain ⟨Lb', cb', nb, l1, l2, l3, l4⟩ := r.rw _ _ _ _ _ gb
      have e1 : La = La' := by rw [hLa] at k1; exact Option.some.inj k1
      have e2 : Lb = Lb' := by rw [hLb] at l1; exact Option.some.inj l1
      subst e1; subst e2
      have hs := run_sameAddr (P := P) (i := i) (j := j) k2 l2
      have hbk : (La.blk == Lb.blk) = (a == b) := by
        by_cases hab : a = b
        · subst hab
          rw [hLa] at hLb; cases hLb; simp
        · have := r.apart h2 h3 hLa hLb hab
          rw [beq_eq_false_iff_ne.2 this, beq_eq_false_iff_ne.2 hab]
      rw [hbk] at hs
      rcases hop with rfl | rfl <;> simp [eqGuard, binOp, run_eqPtrs hu hn, hs]

/-! ### all that read -/
theorem evReadCall_sound {P : Program} {m : Mp} {nt : Nat} {fr : Fr} {a : Act} {h : Hp} {w : World} (r : Rep P m h w) (hf : FrRel m nt fr a.tmps) {o : Oper} {c : Call} {v : Value} (e : evReadCall P fr c h = some v) (ho : o.op = .call c) :
    ∃ v', (execOp a.eval o).run P w = .ok (.value v') w ∧ VRel m v v' := by
  unfold evReadCall at e
  split at e
  · rename_i hc
    split at e
    · rename_i x t ts hargs htys
      simp only [Option.bind_eq_some_iff] at e
      obtain ⟨x1, hx, e⟩ := e
      have hr := ev1_sound hf hx
      have e1 : c.args.map a.eval = #[a.eval x] := toArray_map (l := [a.eval x]) (by simp [hargs])
      have e2 : c.argTypes[0]? = some t := by rw [← Array.getElem?_toList, htys]; rfl
      cases ht : tMap P t with
      | none => rw [ht] at e; simp at e
      | some ke =>
        obtain ⟨kt, et⟩ := ke
        rw [ht] at e; simp only [Option.isNone_some, cond_false, Option.map_eq_some_iff] at e
        obtain ⟨es, hes, rfl⟩ := e
        obtain ⟨es', h1, h2⟩ := mapOf_sound r hes hr
        have hl := h1.length
        refine ⟨_, ?_, .int _ _⟩
        rw [execOp_builtin _ _ _ _ ho hc, e1]
        rcases h2 with ⟨hn, rfl⟩ | ⟨b, ck, hn, hh⟩
        · simp at hl; subst hl
          simp [builtin, Builtin.len_, e2, run_underlying (tMap_spec ht), hn, goInt]
        · simp [builtin, Builtin.len_, e2, run_underlying (tMap_spec ht), hn, goInt, getObj, Sem.run, hh, hl]
    · cases e
  · cases e

theorem evRead_sound {P : Program} {m : Mp} {nt : Nat} {fr : Fr} {a : Act} {h : Hp} {w : World} (r : Rep P m h w) (hf : FrRel m nt fr a.tmps) {o : Oper} {v : Value} (e : evRead P fr o h = some v) :
    ∃ v', (execOp a.eval o).run P w = .ok (.value v') w ∧ VRel m v v' := by
  unfold evRead at e
  split at e
  · rename_i t x ho
    simp only [Option.bind_eq_some_iff] at e
    obtain ⟨x1, hx, e⟩ := e
    obtain ⟨v', h1, h2⟩ := evLoad_sound r e (ev1_sound hf hx)
    exact ⟨v', by simp [execOp, ho, h1], h2⟩
  · rename_i t x i ok ho
    simp only [Option.bind_eq_some_iff] at e
    obtain ⟨x1, hx, y1, hy, e⟩ := e
    obtain ⟨v', h1, h2⟩ := evLookup_sound r e (ev1_sound hf hx) (ev1_sound hf hy)
    exact ⟨v', by simp [execOp, ho, h1], h2⟩
  · rename_i s d x ho
    simp only [Option.bind_eq_some_iff] at e
    obtain ⟨x1, hx, e⟩ := e
    have hr := ev1_sound hf hx
    split at e
    · rename_i sl n cap
      simp only [Option.bind_eq_some_iff] at e
      obtain ⟨el, hel, e⟩ := e
      split at e
      · rename_i hu8 hstr
        simp only [Option.bind_eq_some_iff, Option.map_eq_some_iff] at e
        obtain ⟨cs, hcs, l, hl, rfl⟩ := e
        obtain ⟨cs', g1, g2, g3⟩ := evCells_sound r hcs hr (fun k hk => by simp [lenOf] at hk; omega)
        obtain ⟨ns, n1, n2⟩ := toBytes_spec hl
        have g2' : cs'.toList = cs := g2.scal_eq (by rw [n1]; simp [List.all_map, scal])
        refine ⟨_, ?_, .string _⟩
        generalize he : a.eval x = x' at hr g1
        obtain ⟨a2, c2, rfl⟩ : ∃ a2 c2, x' = .slice a2 n c2 := by cases hr <;> exact ⟨_, _, rfl⟩
        have hconv := run_convert_bytes_string (P := P) w s d el a2 n c2 (tSliceElem_spec hel) hu8 (tString_spec hstr)
        have hb : (Conv.bytesToString (.slice a2 n c2)).run P w = .ok (.string ⟨l.toArray⟩) w := by
          cases a2 with
          | none =>
            have h0 : l = [] := by
              simp [Builtin.firstCells] at g1
              subst g1
              simp at g2'; subst g2'
              cases ns with
              | nil => simp [toBytes] at hl; exact hl
              | cons => simp at n1
            subst h0
            rfl
          | some ad =>
            have hld : (loadCells ad n).run P w = .ok (ns.map (Value.int .u8)).toArray w := by
              simp [Builtin.firstCells] at g1
              rw [g1, ← n1, ← g2']
            rw [run_bytesToString w ad n c2 ns hld, n2]
            rfl
        simp [execOp, ho, he, hconv, hb]
      · cases e
    · cases e
  · rename_i c ho
    exact evReadCall_sound r hf e ho
  · rename_i op t x y yt ho
    simp only [Option.bind_eq_some_iff] at e
    obtain ⟨x1, hx, y1, hy, e⟩ := e
    have hrx := ev1_sound hf hx
    have hry := ev1_sound hf hy
    split at e
    · rename_i a1 i b1 j
      cases hb : (evRead.tPtr P t && evRead.alive h a1 && evRead.alive h b1) with
      | false => rw [hb] at e; simp at e
      | true =>
        rw [hb] at e; simp only [cond_true, Option.some.injEq] at e; subst e
        have hk := evPtrs_sound r hrx hry hb x y .eql (.inl rfl)
        refine ⟨_, ?_, .bool _⟩
        simp only [Sem.run_bind] at hk
        cases hg : (eqGuard .eql t x y (a.eval x) (a.eval y)).run P w with
        | ok u w1 => rw [hg] at hk; simp at hk; simp [execOp, ho, hg, hk]
        | halt u w1 => rw [hg] at hk; simp at hk
    · rename_i a1 i b1 j
      cases hb : (evRead.tPtr P t && evRead.alive h a1 && evRead.alive h b1) with
      | false => rw [hb] at e; simp at e
      | true =>
        rw [hb] at e; simp only [cond_true, Option.some.injEq] at e; subst e
        have hk := evPtrs_sound r hrx hry hb x y .neq (.inr rfl)
        refine ⟨_, ?_, .bool _⟩
        simp only [Sem.run_bind] at hk
        cases hg : (eqGuard .neq t x y (a.eval x) (a.eval y)).run P w with
        | ok u w1 => rw [hg] at hk; simp at hk; simp [execOp, ho, hg, hk]
        | halt u w1 => rw [hg] at hk; simp at hk
    · cases e
  · cases e

theorem evReadOrPure_sound {P : Program} {m : Mp} {nt : Nat} {fr : Fr} {a : Act} {h : Hp} {w : World} (r : Rep P m h w) (hf : FrRel m nt fr a.tmps) {o : Oper} {v : Value} (e : evReadOrPure P fr o h = some v) :
    ∃ v', (execOp a.eval o).run P w = .ok (.value v') w ∧ VRel m v v' := by
  unfold evReadOrPure at e
  split at e
  · rename_i u hu
    cases e
    exact evRead_sound r hf hu
  · obtain ⟨v', h1, h2⟩ := evPure_sound hf e
    exact ⟨v', h1 w, h2⟩

end Go.Ev
