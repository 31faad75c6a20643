/- Ev: a call with arguments, from any world: the whole heap is taken over as it is, to be read alone; what the abstract evaluation gives is what the call returns, and nothing of the first world is changed. -/
import Derived.Test.YtncmgiddcefpcaaDoorEvT
namespace Go.Ev
open Go Go.RowKit
set_option linter.unusedSimpArgs false
set_option linter.unusedVariables false

/-- A cell, as the abstract heap has it (N: how many blocks there are). -/
def absC (N : Nat) : Value → Option Value
  | .bool b => some (.bool b)
  | .int k n => some (.int k n)
  | .float k n => some (.float k n)
  | .complex k x y => some (.complex k x y)
  | .string s => some (.string s)
  | .pointer none => some (.pointer none)
  | .pointer (some ⟨b, o, none⟩) => bif decide (b < N) then some (.pointer (some ⟨b, o, none⟩)) else none
  | .slice none 0 0 => some (.slice none 0 0)
  | .slice (some _) 0 0 => bif decide (0 < N) then some (.slice (some ⟨0, 0, none⟩) 0 0) else none
  | .slice (some ⟨b, o, none⟩) l c => bif decide (b < N) && decide (l ≤ c) then some (.slice (some ⟨b, o, none⟩) l (2 * c)) else none
  | .map none => some (.map none)
  | .chan none => some (.chan none)
  | .nilFunc => some .nilFunc
  | .nilIface => some .nilIface
  | _ => none
def absL (N : Nat) : List Value → Option (List Value)
  | [] => some []
  | v :: l => (absC N v).bind fun a => (absL N l).bind fun as => some (a :: as)
def absV (N : Nat) : Value → Option Value
  | .agg cs => (absL N cs.toList).map fun l => .agg l.toArray
  | v => absC N v
def absA (N : Nat) : List Value → Option (List Value)
  | [] => some []
  | v :: l => (absV N v).bind fun a => (absA N l).bind fun as => some (a :: as)
/-- A cell of a block: what the abstract heap has no word for is a hole. -/
def absH (N : Nat) (v : Value) : Value := match absC N v with
  | some a => a
  | none => .chan (some 0)
def obIn (N : Nat) : Obj → Ob
  | .cells cs t _ => .row (cs.toList.map (absH N)) t .ro
  | _ => .row [] 0 .dead
noncomputable def hIn (w : World) : Hp := { t := Tr.ofList (w.heap.toList.map (obIn w.heap.size)) 0 .e, next := w.heap.size }
def mIn (w : World) : Mp := fun b => if b < w.heap.size then some ⟨b, 0⟩ else none

theorem mIn_lt {w : World} {b : Nat} (h : b < w.heap.size) : mIn w b = some ⟨b, 0⟩ := if_pos h
theorem absC_rel {w : World} {v a : Value} (h : absC w.heap.size v = some a) : VRel (mIn w) a v := by
  unfold absC at h
  split at h
  case h_7 =>
    rename_i b o
    cases hb : decide (b < w.heap.size) with
    | false => rw [hb] at h; cases h
    | true => rw [hb] at h; cases h; exact .ptr (L := ⟨b, 0⟩) (mIn_lt (of_decide_eq_true hb))
  case h_9 =>
    cases hb : decide (0 < w.heap.size) with
    | false => rw [hb] at h; cases h
    | true => rw [hb] at h; cases h; exact .slc (L := ⟨0, 0⟩) (mIn_lt (of_decide_eq_true hb)) (by omega) (by simp) (.inr rfl)
  case h_10 =>
    rename_i b o l c _
    cases hb : decide (b < w.heap.size) with
    | false => rw [hb] at h; simp at h
    | true => cases hl : decide (l ≤ c) with
      | false => rw [hb, hl] at h; simp at h
      | true =>
        rw [hb, hl] at h; simp at h; subst h
        exact .slc (L := ⟨b, 0⟩) (mIn_lt (of_decide_eq_true hb)) (by have := of_decide_eq_true hl; omega) (by simp) (.inl rfl)
  case h_15 => cases h
  all_goals
    cases h
    constructor
theorem absL_rel {w : World} : ∀ {l as : List Value}, absL w.heap.size l = some as → VL (mIn w) as l
  | [], as, h => by cases h; exact .nil
  | v :: l, as, h => by
    unfold absL at h
    simp only [Option.bind_eq_some_iff] at h
    obtain ⟨a, h1, bs, h2, h3⟩ := h
    cases h3
    exact .cons (absC_rel h1) (absL_rel h2)
theorem absV_rel {w : World} {v a : Value} (h : absV w.heap.size v = some a) : VRel (mIn w) a v := by
  unfold absV at h
  split at h
  · obtain ⟨l, h1, rfl⟩ := Option.map_eq_some_iff.1 h
    exact .agg (by simpa using absL_rel h1)
  · exact absC_rel h
theorem absA_rel {w : World} : ∀ {l as : List Value}, absA w.heap.size l = some as → VL (mIn w) as l
  | [], as, h => by cases h; exact .nil
  | v :: l, as, h => by
    unfold absA at h
    simp only [Option.bind_eq_some_iff] at h
    obtain ⟨a, h1, bs, h2, h3⟩ := h
    cases h3
    exact .cons (absV_rel h1) (absA_rel h2)

theorem absH_rel {w : World} (v : Value) : VRel (mIn w) (absH w.heap.size v) v := by
  unfold absH
  cases ha : absC w.heap.size v with
  | some a => exact absC_rel ha
  | none => exact .hole
theorem absH_all {w : World} : ∀ (l : List Value), VL (mIn w) (l.map (absH w.heap.size)) l
  | [] => .nil
  | v :: l => .cons (absH_rel v) (absH_all l)

theorem hIn_get (w : World) (b : Nat) : (hIn w).get b = (w.heap[b]?).map (obIn w.heap.size) := by
  unfold hIn Hp.get
  simp only [Tr.get_ofList, Nat.zero_le, if_true, Nat.sub_zero, List.getElem?_map, Array.getElem?_toList]
  cases w.heap[b]? with
  | none => simp [Tr.get_e]
  | some o => rfl
theorem hIn_next (w : World) : (hIn w).next = w.heap.size := rfl
theorem obIn_ro (N : Nat) (o : Obj) : ∃ cs e, obIn N o = .row cs e .ro ∨ obIn N o = .row cs e .dead := by
  unfold obIn
  split
  · exact ⟨_, _, .inl rfl⟩
  · exact ⟨_, _, .inr rfl⟩
theorem hIn_live (w : World) (b : Nat) : ¬ live (hIn w) b := by
  unfold live
  rw [hIn_get]
  cases w.heap[b]? with
  | none => exact fun h => h
  | some o => obtain ⟨cs, e, h | h⟩ := obIn_ro w.heap.size o <;> (rw [Option.map_some, h]; exact fun h => h)

theorem rep_in (P : Program) (w : World) : Rep P (mIn w) (hIn w) w := by
  have key : ∀ b ob, (hIn w).get b = some ob → ∃ o, w.heap[b]? = some o ∧ obIn w.heap.size o = ob := fun b ob h => by
    rw [hIn_get] at h; exact Option.map_eq_some_iff.1 h
  refine Rep.mk (fun b L e => ?_) (fun b hb => ⟨?_, ?_⟩) (fun b cs e st hb hd => ?_) (fun b cs e base olds hb => ?_) (fun b es ck hb => ?_) (fun b b' L L' hl _ _ _ _ => absurd hl (hIn_live w b))
  · unfold mIn at e
    split at e
    · cases e; assumption
    · cases e
  · rw [hIn_get, Array.getElem?_eq_none (show w.heap.size ≤ b from hb)]; rfl
  · exact if_neg (Nat.not_lt.2 (show w.heap.size ≤ b from hb))
  · obtain ⟨o, h1, h2⟩ := key b _ hb
    have hlt : b < w.heap.size := (Array.getElem?_eq_some_iff.1 h1).1
    unfold obIn at h2
    split at h2
    · rename_i cs' t' fz
      cases h2
      refine ⟨⟨b, 0⟩, cs', fz, mIn_lt hlt, h1, ?_⟩
      rw [List.take_of_length_le (by simp)]
      exact absH_all _
    · cases h2; exact hd.elim
  · obtain ⟨o, h1, h2⟩ := key b _ hb
    obtain ⟨cs', e', h | h⟩ := obIn_ro w.heap.size o <;> rw [h] at h2 <;> cases h2
  · obtain ⟨o, h1, h2⟩ := key b _ hb
    obtain ⟨cs', e', h | h⟩ := obIn_ro w.heap.size o <;> rw [h] at h2 <;> cases h2

theorem Step.belowIn {w w' : World} {m : Mp} {h : Hp} (s : Step (mIn w) (hIn w) w m h w') : Below w.heap.size w w' :=
  ⟨s.os, s.tape, s.output, s.size, fun k hk => s.same k hk fun b L hl _ => absurd hl (hIn_live w b)⟩

theorem From.cellIn {w0 w : World} {m : Mp} {h : Hp} (i : From (mIn w0) (hIn w0) w0 m h w) {a : Addr} {v : Value} (e : w0.cell? a = some v) : w.cell? a = some v := by
  have hlt : a.block < w0.heap.size := by
    unfold World.cell? at e
    rcases h : w0.heap[a.block]? with _ | o
    · rw [h] at e; simp at e
    · exact (Array.getElem?_eq_some_iff.1 h).1
  have := (Step.belowIn i).block a.block hlt
  unfold World.cell? at e ⊢
  rw [this]; exact e

/-- A CALL WITH ARGUMENTS that returns a bool. -/
theorem open_call {C : Ctx} {w0 : World} (hC : CtxOK C (From (mIn w0) (hIn w0) w0) (regOk C.P)) (hmix : C.P.follows .mixedOrders = true) {f : Nat} {args abs : List Value} (ha : absA w0.heap.size args = some abs) {b : Bool}
    (e : Meets C f abs (hIn w0) fun v _ => v = .bool b) : Calls C.P f args.toArray w0 fun e w' => e = .returned (.bool b) ∧ Below w0.heap.size w0 w' := by
  obtain ⟨v, h', ⟨n, e1⟩, rfl⟩ := e
  obtain ⟨_, k⟩ := evCall_sound (From.closed _ _ w0) hC hmix n f abs (hIn w0) _ _ e1
  refine (k (mIn w0) w0 args (rep_in _ _) (Step.refl _ _ _) (absA_rel ha)).mono fun e w' he => ?_
  obtain ⟨v', m', rfl, _, hs, hv⟩ := he
  cases hv
  exact ⟨rfl, hs.belowIn⟩
end Go.Ev
namespace Go.Ev
open Go
theorem okWide_int2 {P : Program} {w : World} {r : Reach} {base : Nat} {t : TypeId} {v : Value} {k : IntKind} (ht : P.underlying t = some (.int k)) (h : Value.okWide P w r base t v) : ∃ n, v = .int k n ∧ k.has n := by
  unfold Value.okWide at h; rw [ht] at h; simp only at h
  unfold Cell.okWide at h; rw [ht] at h
  cases v <;> simp only at h <;> (unfold Cell.ok at h; rw [ht] at h; simp only at h)
  obtain ⟨rfl, h⟩ := h
  exact ⟨_, rfl, h⟩
theorem u8_of {n : Int} (h : (Lit.int .u8 n).wf = true) : ∃ c : UInt8, n = (c.toNat : Int) := by
  have h2 : (decide (IntKind.u8.min ≤ n) && decide (n ≤ IntKind.u8.max)) = true := h
  simp only [Bool.and_eq_true, decide_eq_true_eq] at h2
  have h3 : 0 ≤ n ∧ n ≤ 255 := h2
  exact ⟨UInt8.ofNat n.toNat, by rw [UInt8.toNat_ofNat']; omega⟩
theorem i64_of {n : Int} (h : (Lit.int .i64 n).wf = true) : -9223372036854775808 ≤ n ∧ n ≤ 9223372036854775807 := by
  have h2 : (decide (IntKind.i64.min ≤ n) && decide (n ≤ IntKind.i64.max)) = true := h
  simp only [Bool.and_eq_true, decide_eq_true_eq] at h2
  exact h2
end Go.Ev
