/- Ev: what an argument reads as, taken over into the abstract heap. -/
import Derived.Test.YtncmgiddcefpcaaDoorEvIn
import Derived.Test.YtncmgiddcefpcaaDoorEvAP
import Derived.OpenShut
namespace Go.Ev
open Go
set_option linter.unusedSimpArgs false
set_option linter.unusedVariables false

/-- The cells read as data of that type. -/
def RdT (P : Program) (W : World) (t : TypeId) (cs : List Value) : Prop :=
  ∃ (H : Type) (enc : TypeId × Value → H) (fuel : Nat) (x : DataW H × List MemPlace), DataW.trod enc P W 0 (fun _ => true) true fuel t cs = some x

section
variable {P : Program} {W : World} {t : TypeId} {cs : List Value}
theorem RdT.of {H : Type} {enc : TypeId × Value → H} {v : Value} {d : DataW H} {ps : List MemPlace} (h : DataW.Trod enc P W 0 (fun _ => true) true t v d ps) : RdT P W t v.cells.toList := by
  obtain ⟨f, h⟩ := h; exact ⟨H, enc, f, _, h⟩
theorem RdT.bool (ht : P.underlying t = some .bool) (h : RdT P W t cs) : ∃ b, cs = [.bool b] := by
  obtain ⟨_, _, _, _, h⟩ := h; obtain ⟨b, h, _⟩ := DataW.trod_bool ht h; exact ⟨b, h⟩
theorem RdT.int {k : IntKind} (ht : P.underlying t = some (.int k)) (h : RdT P W t cs) : ∃ n, cs = [.int k n] ∧ (Lit.int k n).wf = true := by
  obtain ⟨_, _, _, _, h⟩ := h; obtain ⟨b, h, _, h2⟩ := DataW.trod_int ht h; exact ⟨b, h, h2⟩
theorem RdT.string (ht : P.underlying t = some .string) (h : RdT P W t cs) : ∃ s : ByteArray, cs = [.string s] ∧ s.size ≤ Go.maxLen := by
  obtain ⟨_, _, _, _, h⟩ := h; obtain ⟨b, h, _, h2⟩ := DataW.trod_string ht h; exact ⟨b, h, h2⟩
theorem RdT.struct {fs : Array Field} (ht : P.underlying t = some (.struct fs)) (h : RdT P W t cs) : cs.length = P.cellsOf t ∧ ∀ (i : Nat) (f : Field), fs[i]? = some f → RdT P W f.type ((cs.drop f.offset).take (P.cellsOf f.type)) := by
  obtain ⟨H, enc, _, _, h⟩ := h
  obtain ⟨xs, n, _, _, h1, h2, h3⟩ := DataW.trod_struct ht h
  refine ⟨h1, fun i f hf => ?_⟩
  have hi : i < xs.length := by rw [h2]; exact (Array.getElem?_eq_some_iff.1 hf).1
  exact ⟨H, enc, n, xs[i], by rw [h3 i f hf, List.getElem?_eq_getElem hi]⟩
theorem RdT.len {fs : Array Field} (ht : P.underlying t = some (.struct fs)) {n : Nat} (hn : P.cellsOf t = n) (h : RdT P W t cs) : cs.length = n := by rw [← hn]; exact (RdT.struct ht h).1
theorem RdT.field {fs : Array Field} (ht : P.underlying t = some (.struct fs)) (h : RdT P W t cs) (i u o n : Nat) (hf : (fs[i]?).map (fun f => (f.type, f.offset)) = some (u, o)) (hn : P.cellsOf u = n) : RdT P W u ((cs.drop o).take n) := by
  obtain ⟨f, h1, h2⟩ := Option.map_eq_some_iff.1 hf
  have := (RdT.struct ht h).2 i f h1
  simp only [Prod.mk.injEq] at h2
  obtain ⟨rfl, rfl⟩ := h2
  rw [hn] at this; exact this
theorem RdT.array {n : Nat} {e : TypeId} (ht : P.underlying t = some (.array n e)) (h : RdT P W t cs) : cs.length = P.cellsOf t ∧ ∀ i, i < n → RdT P W e ((cs.drop (i * P.cellsOf e)).take (P.cellsOf e)) := by
  obtain ⟨H, enc, _, _, h⟩ := h
  obtain ⟨xs, m, _, _, h1, h2, h3⟩ := DataW.trod_array ht h
  refine ⟨h1, fun i hi => ?_⟩
  exact ⟨H, enc, m, xs[i]'(by omega), by rw [h3 i hi, List.getElem?_eq_getElem (by omega)]⟩
theorem RdT.slice {e : TypeId} (ht : P.underlying t = some (.slice e)) (h : RdT P W t cs) : cs = [.slice none 0 0] ∨
    ∃ a len cap, cs = [.slice (some a) len cap] ∧ len ≤ cap ∧ cap ≤ Go.maxLen ∧ ∀ i, i < cap → ∃ l, W.cells? 0 (a.add (i * P.cellsOf e)) (P.cellsOf e) = some l ∧ RdT P W e l := by
  obtain ⟨H, enc, _, _, h⟩ := h
  rcases DataW.trod_slice ht h with ⟨h1, _⟩ | ⟨a, len, cap, elems, rest, n, _, h1, _, _, h3, h4, h5, h6, h7, _⟩
  · exact .inl h1
  · refine .inr ⟨a, len, cap, h1, h3, h4, fun i hi => ?_⟩
    obtain ⟨h8, h9⟩ := h7 rfl
    have key : ∃ y, (W.cells? 0 (a.add (i * P.cellsOf e)) (P.cellsOf e)).bind (DataW.trod enc P W 0 (fun _ => true) true n e) = some y := by
      by_cases hl : i < len
      · exact ⟨elems[i]'(by omega), by rw [h6 i hl, List.getElem?_eq_getElem (by omega)]⟩
      · refine ⟨rest[i - len]'(by omega), ?_⟩
        have := h9 (i - len) (by omega)
        rw [show len + (i - len) = i by omega] at this
        rw [this, List.getElem?_eq_getElem (by omega)]
    obtain ⟨y, hy⟩ := key
    obtain ⟨l, hl, hy⟩ := Option.bind_eq_some_iff.1 hy
    exact ⟨l, hl, H, enc, n, y, hy⟩
end

theorem absH_of {N : Nat} {v a : Value} (h : absC N v = some a) : absH N v = a := by unfold absH; rw [h]
theorem absL_map {N : Nat} : ∀ {l as : List Value}, absL N l = some as → as = l.map (absH N)
  | [], as, h => by cases h; rfl
  | v :: l, as, h => by
    unfold absL at h
    simp only [Option.bind_eq_some_iff] at h
    obtain ⟨a, h1, bs, h2, h3⟩ := h
    cases h3
    rw [List.map_cons, absH_of h1, absL_map h2]
theorem absL_len {N : Nat} {l as : List Value} (h : absL N l = some as) : as.length = l.length := by rw [absL_map h, List.length_map]

theorem choose_list {α : Type} {R : Nat → α → Prop} : ∀ n, (∀ i, i < n → ∃ x, R i x) → ∃ xs : List α, xs.length = n ∧ ∀ (i : Nat) (x : α), xs[i]? = some x → R i x
  | 0, _ => ⟨[], rfl, fun i x h => by simp at h⟩
  | n + 1, h => by
    obtain ⟨xs, h1, h2⟩ := choose_list n fun i hi => h i (by omega)
    obtain ⟨x, hx⟩ := h n (by omega)
    refine ⟨xs ++ [x], by simp [h1], fun i y hy => ?_⟩
    by_cases hi : i < n
    · rw [List.getElem?_append_left (by omega)] at hy; exact h2 i y hy
    · have hi2 : i = n := by
        have := (List.getElem?_eq_some_iff.1 hy).1
        simp [h1] at this; omega
      subst hi2
      rw [List.getElem?_append_right (by omega), h1] at hy
      simp at hy; subst hy; exact hx

theorem mapM_len {α β : Type} {f : α → Option β} : ∀ {l : List α} {ys : List β}, l.mapM f = some ys → ys.length = l.length ∧ ∀ (i : Nat) (x : α), l[i]? = some x → f x = ys[i]?
  | [], ys, h => by simp at h; subst h; exact ⟨rfl, fun i x hx => by simp at hx⟩
  | a :: l, ys, h => by
    rw [List.mapM_cons] at h
    simp only [Option.bind_eq_bind, Option.bind_eq_some_iff, Option.pure_def, Option.some.injEq] at h
    obtain ⟨b, hb, bs, hbs, rfl⟩ := h
    obtain ⟨h1, h2⟩ := mapM_len hbs
    refine ⟨by simp [h1], fun i x hx => ?_⟩
    cases i with
    | zero => simp at hx; subst hx; simp [hb]
    | succ i => simp at hx; simp [h2 i x hx]
theorem cells_row {W : World} {b o n : Nat} {l : List Value} {C : Array Value} {e : TypeId} {fz : Nat × Nat} (hb : W.heap[b]? = some (.cells C e fz)) (h : W.cells? 0 ⟨b, o, none⟩ n = some l) : l = (C.toList.drop o).take n ∧ l.length = n ∧ (1 ≤ n → o + n ≤ C.size) := by
  unfold World.cells? at h
  rw [if_pos (Nat.zero_le _)] at h
  obtain ⟨h1, h2⟩ := mapM_len h
  rw [List.length_range] at h1
  have cell : ∀ j, j < n → C[o + j]? = l[j]? := fun j hj => by
    have := h2 j j (by simp [hj])
    rw [← this]
    have ha : (Addr.add ⟨b, o, none⟩ j) = ⟨b, o + j, none⟩ := by unfold Addr.add; split <;> simp_all
    rw [ha]
    unfold World.cell?
    rw [hb]; rfl
  refine ⟨?_, h1, fun hn => ?_⟩
  · apply List.ext_getElem?
    intro j
    by_cases hj : j < n
    · rw [← cell j hj, List.getElem?_take, if_pos hj, List.getElem?_drop, Array.getElem?_toList]
    · rw [List.getElem?_eq_none (by omega), List.getElem?_eq_none (by rw [List.length_take]; omega)]
  · have := cell (n - 1) (by omega)
    rw [List.getElem?_eq_getElem (show n - 1 < l.length by omega)] at this
    have := (Array.getElem?_eq_some_iff.1 this).1
    omega
theorem cell_block {W : World} {a : Addr} {n : Nat} {l : List Value} (hn : 1 ≤ n) (h : W.cells? 0 (a.add 0) n = some l) : ∃ b o C e fz, a = ⟨b, o, none⟩ ∧ W.heap[b]? = some (.cells C e fz) := by
  unfold World.cells? at h
  rw [if_pos (Nat.zero_le _)] at h
  obtain ⟨h1, h2⟩ := mapM_len h
  rw [List.length_range] at h1
  have := h2 0 0 (by rw [List.getElem?_range (by omega)])
  rw [List.getElem?_eq_getElem (show 0 < l.length by omega)] at this
  have ha : (a.add 0).add 0 = a := by unfold Addr.add; simp
  rw [ha] at this
  unfold World.cell? at this
  rcases hb : W.heap[a.block]? with _ | o
  · rw [hb] at this; simp at this
  · rw [hb] at this
    cases o with
    | cells C e fz =>
      refine ⟨a.block, a.off, C, e, fz, ?_, hb⟩
      cases hs : a.spot with
      | some s => simp [hs] at this
      | none => cases a; simp_all
    | _ => simp at this

theorem absC_sl {N b o l c : Nat} (hc : c ≠ 0) (hb : b < N) (hl : l ≤ c) : absC N (.slice (some ⟨b, o, none⟩) l c) = some (.slice (some ⟨b, o, none⟩) l (2 * c)) := by
  cases c with
  | zero => exact absurd rfl hc
  | succ c => simp [absC, hb, hl]

/-- A SLICE, taken over: its elements each by its own relation. -/
theorem sl_in {α : Type} {P : Program} {W : World} {t e : TypeId} {n : Nat} {cs : List Value} (R : α → List Value → Prop) (hn : P.cellsOf e = n) (h1 : 1 ≤ n)
    (hc : ∀ l, RdT P W e l → ∃ x l', absL W.heap.size l = some l' ∧ R x l') (h0 : ∃ z, W.cell? ⟨0, 0, none⟩ = some z) (ht : P.underlying t = some (.slice e)) (h : RdT P W t cs) :
    ∃ (v v' : Value) (xs : List α) (cs' : List Value), cs = [v] ∧ (v = .slice none 0 0 ∨ ∃ a len cap, v = .slice (some a) len cap) ∧ absC W.heap.size v = some v' ∧ SlAt (hIn W) n v' cs' ∧ cs'.length = xs.length * n ∧ ∀ (i : Nat) (x : α), xs[i]? = some x → R x ((cs'.drop (i * n)).take n) := by
  rcases RdT.slice ht h with rfl | ⟨a, len, cap, rfl, h2, h3, h4⟩
  · exact ⟨_, _, [], [], rfl, .inl rfl, rfl, .inl ⟨rfl, rfl⟩, by simp, fun i x hx => by simp at hx⟩
  · rw [hn] at h4
    by_cases hz : cap = 0
    · subst hz
      obtain rfl : len = 0 := by omega
      obtain ⟨z, hz⟩ := h0
      have hb : ∃ C e' fz, W.heap[0]? = some (.cells C e' fz) := by
        unfold World.cell? at hz
        rcases hb : W.heap[(0 : Nat)]? with _ | o
        · rw [hb] at hz; simp at hz
        · rw [hb] at hz
          cases o with
          | cells C e' fz => exact ⟨C, e', fz, rfl⟩
          | _ => simp at hz
      obtain ⟨C, e', fz, hb⟩ := hb
      have hlt : 0 < W.heap.size := (Array.getElem?_eq_some_iff.1 hb).1
      have hg : (hIn W).get 0 = some (.row (C.toList.map (absH W.heap.size)) e' .ro) := by rw [hIn_get, hb]; rfl
      refine ⟨_, .slice (some ⟨0, 0, none⟩) 0 0, [], [], rfl, .inr ⟨_, _, _, rfl⟩, ?_, .inr ⟨0, 0, 0, 0, _, rfl, Nat.le_refl _, hlt, rowOf_ro hg, by simp, by simp⟩, by simp, fun i x hx => by simp at hx⟩
      unfold absC
      simp [hlt]
    · obtain ⟨l0, hl0, _⟩ := h4 0 (by omega)
      rw [Nat.zero_mul] at hl0
      obtain ⟨b, o, C, e', fz, rfl, hb⟩ := cell_block h1 hl0
      have hlt : b < W.heap.size := (Array.getElem?_eq_some_iff.1 hb).1
      have hg : (hIn W).get b = some (.row (C.toList.map (absH W.heap.size)) e' .ro) := by rw [hIn_get, hb]; rfl
      have el : ∀ i, i < cap → ∃ x, o + i * n + n ≤ C.size ∧ R x (((C.toList.drop (o + i * n)).take n).map (absH W.heap.size)) := fun i hi => by
        obtain ⟨l, hl, hr⟩ := h4 i hi
        have ha : (Addr.add ⟨b, o, none⟩ (i * n)) = ⟨b, o + i * n, none⟩ := by unfold Addr.add; split <;> simp_all
        rw [ha] at hl
        obtain ⟨e1, e2, e3⟩ := cells_row hb hl
        obtain ⟨x, l', e4, e5⟩ := hc l hr
        refine ⟨x, e3 h1, ?_⟩
        rw [← e1, ← absL_map e4]; exact e5
      obtain ⟨xs, x1, x2⟩ := choose_list (R := fun i x => R x (((C.toList.drop (o + i * n)).take n).map (absH W.heap.size))) len fun i hi => by
        obtain ⟨x, _, h⟩ := el i (by omega); exact ⟨x, h⟩
      have hfit : o + len * n ≤ C.size ∨ len = 0 := by
        cases len with
        | zero => exact .inr rfl
        | succ m =>
          obtain ⟨_, h, _⟩ := el m (by omega)
          rw [Nat.add_mul]; omega
      have hclen : (((C.toList.map (absH W.heap.size)).drop o).take (len * n)).length = len * n := by
        rw [List.length_take, List.length_drop, List.length_map, Array.length_toList]
        rcases hfit with h | h
        · omega
        · subst h; simp
      refine ⟨_, .slice (some ⟨b, o, none⟩) len (2 * cap), xs, ((C.toList.map (absH W.heap.size)).drop o).take (len * n), rfl, .inr ⟨_, _, _, rfl⟩, ?_, .inr ⟨b, o, len, 2 * cap, _, rfl, by omega, hlt, rowOf_ro hg, hclen, rfl⟩, by rw [hclen, x1], fun i x hx => ?_⟩
      · exact absC_sl hz hlt h2
      · have hi : i < len := by have := (List.getElem?_eq_some_iff.1 hx).1; omega
        have := x2 i x hx
        rw [List.map_take, List.map_drop] at this
        rw [List.drop_take, List.take_take, List.drop_drop]
        have hm : min n (len * n - i * n) = n := by
          have : i * n + n ≤ len * n := by rw [← Nat.succ_mul]; exact Nat.mul_le_mul_right _ hi
          omega
        rw [hm]; exact this

/-- A CALL WITH ARGUMENTS THAT BEAR NO ADDRESS, by evaluation over the empty abstract heap. -/
theorem closed_args {C : Ctx} {w0 : World} (hC : CtxOK C (From m0 h0 w0) (regOk C.P)) (hmix : C.P.follows .mixedOrders = true) {n f : Nat} {args : List Value} (ha : args.all flat = true) {b : Bool}
    (e : (evCall C n f args h0).map (·.1) = some (.bool b)) : Calls C.P f args.toArray w0 fun e w' => e = .returned (.bool b) ∧ Go.RowKit.Below w0.heap.size w0 w' := by
  obtain ⟨⟨v, h'⟩, e1, e2⟩ := Option.map_eq_some_iff.1 e
  have e2 : v = .bool b := e2
  subst e2
  obtain ⟨_, k⟩ := evCall_sound (From.closed m0 h0 w0) hC hmix n f args h0 _ _ e1
  have hv : ∀ l : List Value, l.all flat = true → VL m0 l l := fun l => by
    induction l with
    | nil => exact fun _ => .nil
    | cons x l ih => intro h; simp only [List.all_cons, Bool.and_eq_true] at h; exact .cons (flat_refl h.1) (ih h.2)
  refine (k m0 w0 args (rep0 _ _) (Step.refl _ _ _) (hv _ ha)).mono fun e w' he => ?_
  obtain ⟨v', m', rfl, _, hs, hv⟩ := he
  cases hv
  exact ⟨rfl, hs.below0⟩
end Go.Ev
