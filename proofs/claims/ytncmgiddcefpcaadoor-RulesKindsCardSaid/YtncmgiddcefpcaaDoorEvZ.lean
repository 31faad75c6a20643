/- Regions that draw, step by step. -/
import Derived.Test.YtncmgiddcefpcaaDoorEvY
namespace Go.Ev
open Go
set_option linter.unusedSimpArgs false
set_option linter.unusedVariables false

theorem all2_refl {f : Value → Value → Bool} : ∀ l : List Value, (∀ a ∈ l, f a a = true) → veqF.all2 f l l = true
  | [], _ => rfl
  | a :: l, h => by
    simp only [veqF.all2, h a (List.mem_cons_self ..), Bool.true_and]
    exact all2_refl l fun b hb => h b (List.mem_cons_of_mem _ hb)

theorem veqF_refl : ∀ (n : Nat) (v : Value), SizeOf.sizeOf v ≤ n → veqF n v v = true := by
  intro n
  induction n with
  | zero => intro v hv; cases v <;> simp at hv <;> (try omega)
  | succ n ih =>
    intro v hv
    have arr : ∀ (c : Array Value), SizeOf.sizeOf c ≤ n → ∀ a ∈ c.toList, veqF n a a = true := fun c hc a ha => ih a (by
      have h1 := List.sizeOf_lt_of_mem ha
      have h2 : SizeOf.sizeOf c.toList < SizeOf.sizeOf c := by cases c; simp
      omega)
    cases v with
    | agg c => simp only [Value.agg.sizeOf_spec] at hv; simp only [veqF]; exact all2_refl _ (arr c (by omega))
    | tuple c => simp only [Value.tuple.sizeOf_spec] at hv; simp only [veqF]; exact all2_refl _ (arr c (by omega))
    | func f a c => simp only [Value.func.sizeOf_spec] at hv; simp only [veqF]; rw [all2_refl _ (arr a (by omega)), all2_refl _ (arr c (by omega))]; simp
    | iface t v => simp only [Value.iface.sizeOf_spec] at hv; simp only [veqF]; rw [ih v (by omega)]; simp
    | _ => simp [veqF]
theorem veq_refl (v : Value) : veq v v = true := veqF_refl _ v (Nat.le_refl _)

variable {C : Ctx}
/-- The operations of a region that draws, in the canonical order. -/
def WpT (C : Ctx) (ops : Array Oper) (L : List Nat) (s : Trc) (Q : Trc → Prop) : Prop := ∃ n s', trc C.P (evCall C n) ops L s = some s' ∧ Q s'
noncomputable def readsB (C : Ctx) (ops : Array Oper) (s : Trc) : Bool := readsOk C.P ops ((List.range ops.size).filter fun j => kindAt C.P ops j == .eff) s
def doneT (C : Ctx) (ops : Array Oper) (Q : Ex → Fr → Hp → Prop) (s : Trc) : Prop := readsB C ops s = true ∧ Q .norm s.fr s.h
theorem doneT_eq {ops : Array Oper} {Q : Ex → Fr → Hp → Prop} {s : Trc} : doneT C ops Q s = (readsB C ops s = true ∧ Q .norm s.fr s.h) := rfl

theorem Wp_draw {i : Nat} {ops : Array Oper} {fr : Fr} {h : Hp} {Q : Ex → Fr → Hp → Prop} {L : List Nat} (hL : sched C.P ops = L) :
    Wp C (.region i ops true) fr h Q = WpT C ops L ⟨fr, h, [], [([], h)], []⟩ (doneT C ops Q) := by
  subst hL
  refine propext ⟨fun ⟨n, e, fr', h', e1, q⟩ => ?_, fun ⟨n, s, h1, h2, h3⟩ => ⟨n, .norm, s.fr, s.h, ?_, h3⟩⟩
  · unfold evCode at e1
    simp only [cond_true] at e1
    split at e1
    · rename_i fr1 h1 h2
      simp only [Option.some.injEq, Prod.mk.injEq] at e1
      obtain ⟨rfl, rfl, rfl⟩ := e1
      unfold evDraw at h2
      split at h2
      · rename_i s hs
        cases hr : readsOk C.P ops ((List.range ops.size).filter fun j => kindAt C.P ops j == .eff) s with
        | false => rw [hr] at h2; simp at h2
        | true =>
          rw [hr] at h2
          simp only [cond_true, Option.some.injEq, Prod.mk.injEq] at h2
          obtain ⟨rfl, rfl⟩ := h2
          exact ⟨n, s, hs, hr, q⟩
      · cases h2
    · cases e1
  · unfold evCode
    simp only [cond_true]
    unfold evDraw
    rw [h1]
    unfold readsB at h2
    simp only [h2, cond_true]

section
variable {ops : Array Oper} {L : List Nat} {s : Trc} {Q : Trc → Prop} {j : Nat} {o : Oper}
theorem WpT_nil : WpT C ops [] s Q = Q s :=
  propext ⟨fun ⟨_, _, e, q⟩ => by simp only [trc, Option.some.injEq] at e; subst e; exact q, fun q => ⟨0, s, rfl, q⟩⟩
/-- What follows of an operation that was carried out. -/
def stepT (C : Ctx) (ops : Array Oper) (L : List Nat) (j : Nat) (k : Kd) (d : Option Tmp) (s : Trc) (Q : Trc → Prop) (v : Value) (h : Hp) : Prop :=
  WpT C ops L (match k with
    | .eff => { fr := put s.fr d v, h := h, done := j :: s.done, bs := (j :: s.done, h) :: s.bs, rs := s.rs }
    | .read => { s with fr := put s.fr d v, h := h, rs := (j, s.fr, v) :: s.rs }
    | _ => { s with fr := put s.fr d v, h := h }) Q
def skipT (C : Ctx) (ops : Array Oper) (L : List Nat) (j : Nat) (k : Kd) (d : Option Tmp) (s : Trc) (Q : Trc → Prop) : Prop :=
  WpT C ops L (bif k == .eff then { s with fr := put s.fr d undef, done := j :: s.done, bs := (j :: s.done, s.h) :: s.bs } else { s with fr := put s.fr d undef }) Q
def wantT (C : Ctx) (ops : Array Oper) (L : List Nat) (j : Nat) (o : Oper) (s : Trc) (Q : Trc → Prop) (b : Bool) : Prop :=
  bif b then WpP C o s.fr s.h (stepT C ops L j (kindOf C.P o) o.dst s Q) else skipT C ops L j (kindOf C.P o) o.dst s Q
theorem wantT_true : wantT C ops L j o s Q true = WpP C o s.fr s.h (stepT C ops L j (kindOf C.P o) o.dst s Q) := rfl
theorem wantT_false : wantT C ops L j o s Q false = skipT C ops L j (kindOf C.P o) o.dst s Q := rfl

theorem WpT_cons (ho : ops[j]? = some o) : WpT C ops (j :: L) s Q = onSome (evWanted ops s.fr o) (wantT C ops L j o s Q) := by
  refine propext ⟨fun ⟨n, s', e, q⟩ => ?_, fun ⟨b, h1, h2⟩ => ?_⟩
  · unfold trc at e
    split at e
    · rename_i s1 h1
      unfold trcStep at h1
      rw [ho] at h1
      simp only at h1
      split at h1
      · cases h1
      · rename_i hw
        refine ⟨false, hw, n, s', ?_, q⟩
        cases hk : (kindOf C.P o == Kd.eff) with
        | true => rw [hk] at h1; simp only [cond_true, Option.some.injEq] at h1; subst h1; exact e
        | false => rw [hk] at h1; simp only [cond_false, Option.some.injEq] at h1; subst h1; exact e
      · rename_i hw
        split at h1
        · cases h1
        · rename_i v h' hv
          refine ⟨true, hw, n, v, h', hv, n, s', ?_, q⟩
          cases hk : kindOf C.P o <;> rw [hk] at h1 <;> simp only [Option.some.injEq] at h1 <;> subst h1 <;> exact e
    · cases e
  · cases b with
    | false =>
      obtain ⟨n, s', e, q⟩ := h2
      refine ⟨n, s', ?_, q⟩
      unfold trc trcStep
      rw [ho]
      simp only [h1]
      cases hk : (kindOf C.P o == Kd.eff) with
      | true => rw [hk] at e; exact e
      | false => rw [hk] at e; exact e
    | true =>
      obtain ⟨n, v, h', hv, m, s', e, q⟩ := h2
      refine ⟨max n m, s', ?_, q⟩
      unfold trc trcStep
      rw [ho]
      simp only [h1]
      rw [evOp_mono (evCall_mono C (Nat.le_max_left n m)) hv]
      have e' := trc_mono (evCall_mono C (Nat.le_max_right n m)) _ e
      cases hk : kindOf C.P o <;> rw [hk] at e' <;> exact e'
end

/-! ### the rest of the operations -/
section
variable {d : Option Tmp} {ty ty' : TypeId} {p : String} {af : Array Edge} {g : Option (Nat × Bool)} {fr : Fr} {h : Hp} {Q : Value → Hp → Prop}

/-- An operation whose outcome asks no call: as it is evaluated. -/
def kPair (Q : Value → Hp → Prop) (r : Value × Hp) : Prop := Q r.1 r.2
theorem kPair_eq {v : Value} : kPair Q (v, h) = Q v h := rfl
theorem P_any {o : Oper} (X : Option (Value × Hp)) (hx : ∀ call, evOp C.P call fr o h = X) : WpP C o fr h Q = onSome X (kPair Q) := propext (WpP_of X hx)

theorem P_nilCheck {x : Operand} : WpP C ⟨d, .nilCheck x, ty, p, af, g⟩ fr h Q = onSome (ev1 fr x) (kOne (fun | .pointer (some a) => some (.pointer (some a)) | _ => none) h Q) := by
  rw [propext (WpP_pure rfl)]; show onSome _ _ = _; simp only [evPure, onSome_bind]; rfl
def kExtract (i : Nat) : Value → Option Value
  | .tuple vs => vs[i]?
  | _ => none
theorem kExtract_eq {i : Nat} {vs : Array Value} : kExtract i (.tuple vs) = vs[i]? := rfl
theorem P_extract {x : Operand} {i : Nat} : WpP C ⟨d, .extract x i, ty, p, af, g⟩ fr h Q = onSome (ev1 fr x) (kOne (kExtract i) h Q) := by
  rw [propext (WpP_pure rfl)]; show onSome _ _ = _; simp only [evPure, onSome_bind]; rfl
def kBuild (P : Program) (t : TypeId) (h : Hp) (Q : Value → Hp → Prop) (ps : List (Nat × Value)) : Prop := onSome (evBuild P t ps) (at' Q h)
theorem kBuild_eq {P : Program} {t : TypeId} {ps : List (Nat × Value)} : kBuild P t h Q ps = onSome (evBuild P t ps) (at' Q h) := rfl
theorem P_build {t : TypeId} {ps : Array (Nat × Operand)} : WpP C ⟨d, .build t ps, ty, p, af, g⟩ fr h Q = onSome (evParts fr ps.toList) (kBuild C.P t h Q) := by
  rw [propext WpP_build]; show onSome _ _ = _; simp only [onSome_bind]; rfl
theorem P_convert {s t : TypeId} {x : Operand} (hs : tSliceElem C.P s = none) : WpP C ⟨d, .convert s t x, ty, p, af, g⟩ fr h Q = onSome (ev1 fr x) (kOne (fun a => bif scal a then prunS C.P (convert s t a) else none) h Q) := by
  rw [propext (WpP_pure (by simp [kindOf, hs]))]; show onSome _ _ = _; simp only [evPure, onSome_bind]; rfl
theorem P_makeInterface {t : TypeId} {x : Operand} (ht : tIface C.P t = some false) : WpP C ⟨d, .makeInterface t x, ty, p, af, g⟩ fr h Q = onSome (ev1 fr x) (kOne (fun a => some (.iface t a)) h Q) := by
  rw [propext (WpP_pure rfl)]; show onSome _ _ = _; simp only [evPure, onSome_bind, ht, BEq.rfl, cond_true]; rfl
/-- The bounds of a slice expression. -/
def kSlice (P : Program) (t : TypeId) (lo hi mx : Option Operand) (fr : Fr) (h : Hp) (Q : Value → Hp → Prop) (a : Value) : Prop :=
  onSome (evPure.opt fr lo) fun lo => onSome (evPure.opt fr hi) fun hi => onSome (evPure.opt fr mx) fun mx => onSome (evSlice P t a lo hi mx) (at' Q h)
theorem P_slice {t : TypeId} {x : Operand} {lo hi mx : Option Operand} : WpP C ⟨d, .slice t x lo hi mx, ty, p, af, g⟩ fr h Q = onSome (ev1 fr x) (kSlice C.P t lo hi mx fr h Q) := by
  rw [propext (WpP_pure rfl)]; show onSome _ _ = _; simp only [evPure, onSome_bind]; rfl
theorem kSlice_eq {P : Program} {t : TypeId} {lo hi mx : Option Operand} {a : Value} {l u m : Option Value} (h1 : evPure.opt fr lo = some l) (h2 : evPure.opt fr hi = some u) (h3 : evPure.opt fr mx = some m) :
    kSlice P t lo hi mx fr h Q a = onSome (evSlice P t a l u m) (at' Q h) := by
  unfold kSlice; rw [h1, onSome_some, h2, onSome_some, h3, onSome_some]

/-! new blocks -/
def kNew (h : Hp) (Q : Value → Hp → Prop) (x : Ob × (Nat → Value)) : Prop := Q (x.2 h.next) (h.push x.1)
theorem kNew_eq {ob : Ob} {mk : Nat → Value} : kNew h Q (ob, mk) = Q (mk h.next) (h.push ob) := rfl
theorem P_alloc {t : TypeId} {z : Value} (hz : tZero C.P t = some z) (hf : flat z = true) : WpP C ⟨d, .alloc t, ty, p, af, g⟩ fr h Q = Q (.pointer (some ⟨h.next, 0, none⟩)) (h.push (.row z.cells.toList t (.rw 0 []))) := by
  rw [propext (WpP_new rfl)]; show onSome _ _ = _; simp only [evNew, hz, Option.bind_some, hf, Bool.not_true, cond_false, onSome_some]
def kBox (t : TypeId) (h : Hp) (Q : Value → Hp → Prop) (v : Value) : Prop := bif boxable v then Q (.pointer (some ⟨h.next, 0, none⟩)) (h.push (.row v.cells.toList t (.rw 0 []))) else False
theorem kBox_eq {t : TypeId} {v : Value} (hb : boxable v = true) : kBox t h Q v = Q (.pointer (some ⟨h.next, 0, none⟩)) (h.push (.row v.cells.toList t (.rw 0 []))) := by unfold kBox; rw [hb]; rfl
theorem kBox_agg {t : TypeId} {cs : Array Value} : kBox t h Q (.agg cs) = Q (.pointer (some ⟨h.next, 0, none⟩)) (h.push (.row cs.toList t (.rw 0 []))) := rfl
theorem kBox_int {t : TypeId} {k : IntKind} {n : Int} : kBox t h Q (.int k n) = Q (.pointer (some ⟨h.next, 0, none⟩)) (h.push (.row [.int k n] t (.rw 0 []))) := rfl
theorem kBox_bool {t : TypeId} {b : Bool} : kBox t h Q (.bool b) = Q (.pointer (some ⟨h.next, 0, none⟩)) (h.push (.row [.bool b] t (.rw 0 []))) := rfl
theorem kBox_string {t : TypeId} {s : ByteArray} : kBox t h Q (.string s) = Q (.pointer (some ⟨h.next, 0, none⟩)) (h.push (.row [.string s] t (.rw 0 []))) := rfl
theorem kBox_pointer {t : TypeId} {p : Option Addr} : kBox t h Q (.pointer p) = Q (.pointer (some ⟨h.next, 0, none⟩)) (h.push (.row [.pointer p] t (.rw 0 []))) := rfl
theorem kBox_slice {t : TypeId} {a : Option Addr} {l c : Nat} : kBox t h Q (.slice a l c) = Q (.pointer (some ⟨h.next, 0, none⟩)) (h.push (.row [.slice a l c] t (.rw 0 []))) := rfl
theorem P_box {t : TypeId} {x : Operand} : WpP C ⟨d, .box t x, ty, p, af, g⟩ fr h Q = onSome (ev1 fr x) (kBox t h Q) := by
  rw [propext (WpP_new rfl)]; show onSome _ _ = _; simp only [evNew, onSome_bind]
  congr 1; funext v
  unfold kBox
  cases boxable v with
  | true => simp only [cond_true, onSome_some]
  | false => simp [onSome]
theorem P_makeMap {t : TypeId} {kt et : TypeId} (ht : tMap C.P t = some (kt, et)) : WpP C ⟨d, .makeMap t none, ty, p, af, g⟩ fr h Q = Q (.map (some h.next)) (h.push (.map [] 0)) := by
  rw [propext (WpP_new rfl)]; show onSome _ _ = _; simp only [evNew, ht, Option.isSome_some, Option.isNone_none, Bool.and_self, cond_true, onSome_some]
theorem P_buildSlice {t : TypeId} {n : Nat} {ps : Array (Nat × Operand)} : WpP C ⟨d, .buildSlice t n ps, ty, p, af, g⟩ fr h Q = onSome (evNew C.P fr ⟨d, .buildSlice t n ps, ty, p, af, g⟩) (kNew h Q) := by
  rw [propext (WpP_new rfl)]; rfl
theorem P_makeSlice {t : TypeId} {l c : Operand} : WpP C ⟨d, .makeSlice t l c, ty, p, af, g⟩ fr h Q = onSome (evNew C.P fr ⟨d, .makeSlice t l c, ty, p, af, g⟩) (kNew h Q) := by
  rw [propext (WpP_new rfl)]; rfl

/-! effects -/
def kHp (Q : Value → Hp → Prop) (h : Hp) : Prop := Q undef h
theorem kHp_eq : kHp Q h = Q undef h := rfl
def kStore2 (P : Program) (t : TypeId) (a : Value) (h : Hp) (Q : Value → Hp → Prop) (v : Value) : Prop := onSome (evStore P t a v h) (kHp Q)
theorem kStore2_eq {P : Program} {t : TypeId} {a v : Value} : kStore2 P t a h Q v = onSome (evStore P t a v h) (kHp Q) := rfl
def kStore (P : Program) (t : TypeId) (x : Operand) (fr : Fr) (h : Hp) (Q : Value → Hp → Prop) (a : Value) : Prop := onSome (ev1 fr x) (kStore2 P t a h Q)
theorem kStore_eq {P : Program} {t : TypeId} {x : Operand} {a : Value} : kStore P t x fr h Q a = onSome (ev1 fr x) (kStore2 P t a h Q) := rfl
theorem P_store {t : TypeId} {a x : Operand} : WpP C ⟨d, .store t a x, ty, p, af, g⟩ fr h Q = onSome (ev1 fr a) (kStore C.P t x fr h Q) := by
  rw [P_any ((ev1 fr a).bind fun a => (ev1 fr x).bind fun v => (evStore C.P t a v h).map fun h => (undef, h)) (fun call => rfl)]
  simp only [onSome_bind, onSome_map]
  rfl
def kMu3 (P : Program) (t : TypeId) (a b : Value) (h : Hp) (Q : Value → Hp → Prop) (v : Value) : Prop := onSome (evMapUpdate P t a b v h) (kHp Q)
theorem kMu3_eq {P : Program} {t : TypeId} {a b v : Value} : kMu3 P t a b h Q v = onSome (evMapUpdate P t a b v h) (kHp Q) := rfl
def kMu2 (P : Program) (t : TypeId) (x : Operand) (a : Value) (fr : Fr) (h : Hp) (Q : Value → Hp → Prop) (b : Value) : Prop := onSome (ev1 fr x) (kMu3 P t a b h Q)
theorem kMu2_eq {P : Program} {t : TypeId} {x : Operand} {a b : Value} : kMu2 P t x a fr h Q b = onSome (ev1 fr x) (kMu3 P t a b h Q) := rfl
def kMu (P : Program) (t : TypeId) (k x : Operand) (fr : Fr) (h : Hp) (Q : Value → Hp → Prop) (a : Value) : Prop := onSome (ev1 fr k) (kMu2 P t x a fr h Q)
theorem kMu_eq {P : Program} {t : TypeId} {k x : Operand} {a : Value} : kMu P t k x fr h Q a = onSome (ev1 fr k) (kMu2 P t x a fr h Q) := rfl
theorem P_mapUpdate {t : TypeId} {m k x : Operand} : WpP C ⟨d, .mapUpdate t m k x, ty, p, af, g⟩ fr h Q = onSome (ev1 fr m) (kMu C.P t k x fr h Q) := by
  rw [P_any ((ev1 fr m).bind fun m => (ev1 fr k).bind fun k => (ev1 fr x).bind fun x => (evMapUpdate C.P t m k x h).map fun h => (undef, h)) (fun call => rfl)]
  simp only [onSome_bind, onSome_map]
  rfl
theorem P_insert {t : TypeId} {m k x : Operand} : WpP C ⟨d, .insert t m k x, ty, p, af, g⟩ fr h Q = onSome (ev1 fr m) (kMu C.P t k x fr h Q) := by
  rw [P_any ((ev1 fr m).bind fun m => (ev1 fr k).bind fun k => (ev1 fr x).bind fun x => (evMapUpdate C.P t m k x h).map fun h => (undef, h)) (fun call => rfl)]
  simp only [onSome_bind, onSome_map]
  rfl
def kDel2 (P : Program) (t : TypeId) (a : Value) (h : Hp) (Q : Value → Hp → Prop) (v : Value) : Prop := onSome (evDelete P t a v h) (kHp Q)
theorem kDel2_eq {P : Program} {t : TypeId} {a v : Value} : kDel2 P t a h Q v = onSome (evDelete P t a v h) (kHp Q) := rfl
def kDel (P : Program) (t : TypeId) (x : Operand) (fr : Fr) (h : Hp) (Q : Value → Hp → Prop) (a : Value) : Prop := onSome (ev1 fr x) (kDel2 P t a h Q)
theorem kDel_eq {P : Program} {t : TypeId} {x : Operand} {a : Value} : kDel P t x fr h Q a = onSome (ev1 fr x) (kDel2 P t a h Q) := rfl
theorem P_delete {t u : TypeId} {m k : Operand} : WpP C ⟨d, .call ⟨.builtin .delete, #[m, k], #[t, u]⟩, ty, p, af, g⟩ fr h Q = onSome (ev1 fr m) (kDel C.P t k fr h Q) := by
  rw [P_any ((ev1 fr m).bind fun m => (ev1 fr k).bind fun k => (evDelete C.P t m k h).map fun h => (.tuple #[], h)) (fun call => rfl)]
  simp only [onSome_bind, onSome_map]
  rfl
def kApp2 (P : Program) (t : TypeId) (a : Value) (h : Hp) (Q : Value → Hp → Prop) (v : Value) : Prop := onSome (evAppend P t a v h) (kPair Q)
theorem kApp2_eq {P : Program} {t : TypeId} {a v : Value} : kApp2 P t a h Q v = onSome (evAppend P t a v h) (kPair Q) := rfl
def kApp (P : Program) (t : TypeId) (x : Operand) (fr : Fr) (h : Hp) (Q : Value → Hp → Prop) (a : Value) : Prop := onSome (ev1 fr x) (kApp2 P t a h Q)
theorem kApp_eq {P : Program} {t : TypeId} {x : Operand} {a : Value} : kApp P t x fr h Q a = onSome (ev1 fr x) (kApp2 P t a h Q) := rfl
theorem P_append {t u e : TypeId} {s x : Operand} (hu : C.P.underlying u = some (.slice e)) : WpP C ⟨d, .call ⟨.builtin .append, #[s, x], #[t, u]⟩, ty, p, af, g⟩ fr h Q = onSome (ev1 fr s) (kApp C.P t x fr h Q) := by
  rw [P_any ((ev1 fr s).bind fun s => (ev1 fr x).bind fun x => evAppend C.P t s x h) (fun call => by
    show evEffCall C.P call fr ⟨.builtin .append, #[s, x], #[t, u]⟩ h = _
    simp only [evEffCall, hu])]
  simp only [onSome_bind]
  rfl
def kCopy2 (P : Program) (t : TypeId) (a : Value) (h : Hp) (Q : Value → Hp → Prop) (v : Value) : Prop := onSome (evCopy P t a v h) (kPair Q)
theorem kCopy2_eq {P : Program} {t : TypeId} {a v : Value} : kCopy2 P t a h Q v = onSome (evCopy P t a v h) (kPair Q) := rfl
def kCopy (P : Program) (t : TypeId) (x : Operand) (fr : Fr) (h : Hp) (Q : Value → Hp → Prop) (a : Value) : Prop := onSome (ev1 fr x) (kCopy2 P t a h Q)
theorem kCopy_eq {P : Program} {t : TypeId} {x : Operand} {a : Value} : kCopy P t x fr h Q a = onSome (ev1 fr x) (kCopy2 P t a h Q) := rfl
theorem P_copy {t u : TypeId} {s x : Operand} : WpP C ⟨d, .call ⟨.builtin .copy, #[s, x], #[t, u]⟩, ty, p, af, g⟩ fr h Q = onSome (ev1 fr s) (kCopy C.P t x fr h Q) := by
  rw [P_any ((ev1 fr s).bind fun s => (ev1 fr x).bind fun x => evCopy C.P t s x h) (fun call => rfl)]
  simp only [onSome_bind]
  rfl

/-! reads -/
theorem P_lookup {t : TypeId} {x i : Operand} {ok : Bool} : WpP C ⟨d, .lookup t x i ok, ty, p, af, g⟩ fr h Q = onSome (ev1 fr x) (kTwo i (fun a b => evLookup C.P t a b ok h) fr h Q) := by
  rw [propext (WpP_read rfl)]
  show onSome _ _ = _
  unfold evReadOrPure
  simp only [evRead, evPure]
  have hr : onSome (ev1 fr x) (kTwo i (fun a b => evLookup C.P t a b ok h) fr h Q) = onSome ((ev1 fr x).bind fun a => (ev1 fr i).bind fun b => evLookup C.P t a b ok h) (at' Q h) := by simp only [onSome_bind]; rfl
  rw [hr]
  cases ((ev1 fr x).bind fun a => (ev1 fr i).bind fun b => evLookup C.P t a b ok h) <;> rfl
theorem P_lenMap {t kt et : TypeId} {x : Operand} (ht : tMap C.P t = some (kt, et)) : WpP C ⟨d, .call ⟨.builtin .len, #[x], #[t]⟩, ty, p, af, g⟩ fr h Q = onSome (ev1 fr x) (kOne (fun v => (mapOf h v).map fun es => .int .i64 es.length) h Q) := by
  rw [propext (WpP_read (by simp [kindOf, ht]))]
  show onSome _ _ = _
  unfold evReadOrPure
  simp only [evRead, evReadCall, ht, Option.isNone_some, cond_false]
  cases hx : ev1 fr x with
  | none => simp [evPure, evPureCall, hx, onSome]
  | some v =>
    simp only [Option.bind_some, onSome_some, kOne_eq]
    cases hm : mapOf h v with
    | some es => rfl
    | none =>
      simp only [Option.map_none, evPure, evPureCall, hx, Option.bind_some]
      have hsl : tSliceElem C.P t = none := by unfold tSliceElem; unfold tMap at ht; split at ht <;> simp_all
      have hst : (tString C.P t == some true) = false := by unfold tString; unfold tMap at ht; split at ht <;> simp_all
      cases v <;> simp [onSome, hsl, hst]
end

/-! ### a region that draws and reads nothing is carried out as its text stands -/
/-- No reads, the canonical order is the text's. -/
def noReads (P : Program) (ops : Array Oper) : Bool := (sched P ops == List.range ops.size) && ops.toList.all fun o => !(kindOf P o == .read)

theorem trc_noReads {P : Program} {call : CallF} {ops : Array Oper} : ∀ (l : List Oper) (L : List Nat) (s : Trc), L.map (fun j => ops[j]?) = l.map some → (∀ o ∈ l, kindOf P o ≠ .read) →
    ∀ fr' h', (evOps P call ops l s.fr s.h = some (fr', h') ↔ ∃ s', trc P call ops L s = some s' ∧ s'.fr = fr' ∧ s'.h = h' ∧ s'.rs = s.rs)
  | [], L, s, hL, _, fr', h' => by
    have : L = [] := by simpa using hL
    subst this
    simp only [evOps, trc, Option.some.injEq, Prod.mk.injEq]
    exact ⟨fun ⟨a, b⟩ => ⟨s, rfl, a, b, rfl⟩, fun ⟨s', e, a, b, _⟩ => by subst e; exact ⟨a, b⟩⟩
  | o :: l, [], s, hL, _, fr', h' => by simp at hL
  | o :: l, j :: L, s, hL, hk, fr', h' => by
    simp only [List.map_cons, List.cons.injEq] at hL
    have ih := fun s => trc_noReads (call := call) l L s hL.2 (fun o ho => hk o (List.mem_cons_of_mem _ ho)) fr' h'
    have hko := hk o (List.mem_cons_self ..)
    unfold evOps trc trcStep
    rw [hL.1]
    simp only
    cases hw : evWanted ops s.fr o with
    | none => simp
    | some b =>
      cases b with
      | false =>
        simp only
        cases hq : (kindOf P o == Kd.eff) with
        | true => simp only [cond_true]; exact ih { fr := put s.fr o.dst undef, h := s.h, done := j :: s.done, bs := (j :: s.done, s.h) :: s.bs, rs := s.rs }
        | false => simp only [cond_false]; exact ih { s with fr := put s.fr o.dst undef }
      | true =>
        simp only
        cases he : evOp P call s.fr o s.h with
        | none => simp
        | some r =>
          obtain ⟨v, h1⟩ := r
          simp only
          cases hq : kindOf P o with
          | read => exact absurd hq hko
          | pure => exact ih { s with fr := put s.fr o.dst v, h := h1 }
          | new => exact ih { s with fr := put s.fr o.dst v, h := h1 }
          | eff => exact ih { fr := put s.fr o.dst v, h := h1, done := j :: s.done, bs := (j :: s.done, h1) :: s.bs, rs := s.rs }

theorem trc_rs {P : Program} {call : CallF} {ops : Array Oper} (hk : ∀ o ∈ ops.toList, kindOf P o ≠ .read) : ∀ {L : List Nat} {s s' : Trc}, trc P call ops L s = some s' → s'.rs = s.rs
  | [], s, s', e => by simp only [trc, Option.some.injEq] at e; rw [e]
  | j :: L, s, s', e => by
    unfold trc at e
    split at e
    · rename_i s1 h1
      rw [trc_rs hk e]
      unfold trcStep at h1
      split at h1
      · cases h1
      · rename_i o ho
        have hko := hk o (by rw [Array.getElem?_eq_some_iff] at ho; obtain ⟨hj, rfl⟩ := ho; simp)
        split at h1
        · cases h1
        · cases hq : (kindOf P o == Kd.eff) with
          | true => rw [hq] at h1; simp only [cond_true, Option.some.injEq] at h1; rw [← h1]
          | false => rw [hq] at h1; simp only [cond_false, Option.some.injEq] at h1; rw [← h1]
        · split at h1
          · cases h1
          · cases hq : kindOf P o <;> rw [hq] at h1 <;> simp only [Option.some.injEq] at h1
            case read => exact absurd hq hko
            all_goals rw [← h1]
    · cases e

theorem Wp_drawText {i : Nat} {ops : Array Oper} {fr : Fr} {h : Hp} {Q : Ex → Fr → Hp → Prop} (hn : noReads C.P ops = true) :
    Wp C (.region i ops true) fr h Q = WpO C ops ops.toList fr h (doneP Q) := by
  unfold noReads at hn
  simp only [Bool.and_eq_true, beq_iff_eq, List.all_eq_true, Bool.not_eq_true', beq_eq_false_iff_ne] at hn
  obtain ⟨h1, h2⟩ := hn
  rw [Wp_draw h1]
  have hL : (List.range ops.size).map (fun j => ops[j]?) = ops.toList.map some := by
    apply List.ext_getElem?
    intro k
    simp only [List.getElem?_map, Array.getElem?_toList]
    by_cases hk : k < ops.size
    · rw [List.getElem?_range hk]
      simp [Array.getElem?_eq_getElem hk]
    · rw [List.getElem?_eq_none (by simpa using hk), Array.getElem?_eq_none (by omega)]
      rfl
  refine propext ⟨fun ⟨n, s', e, hr, q⟩ => ?_, fun ⟨n, fr', h', e, q⟩ => ?_⟩
  · obtain ⟨a, b⟩ : s'.fr = s'.fr ∧ s'.h = s'.h := ⟨rfl, rfl⟩
    have := (trc_noReads (call := evCall C n) ops.toList (List.range ops.size) ⟨fr, h, [], [([], h)], []⟩ hL h2 s'.fr s'.h).2
    refine ⟨n, s'.fr, s'.h, this ⟨s', e, rfl, rfl, ?_⟩, q⟩
    exact trc_rs h2 e
  · obtain ⟨s', e1, rfl, rfl, e2⟩ := (trc_noReads (call := evCall C n) ops.toList (List.range ops.size) ⟨fr, h, [], [([], h)], []⟩ hL h2 fr' h').1 e
    refine ⟨n, s', e1, ?_, q⟩
    unfold readsB readsOk
    rw [e2]
    rfl
end Go.Ev
