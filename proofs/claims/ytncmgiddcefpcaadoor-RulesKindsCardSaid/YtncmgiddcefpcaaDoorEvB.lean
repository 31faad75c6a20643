/- Values and heaps under a renaming of blocks: the relation, and its first laws. -/
import Derived.Test.YtncmgiddcefpcaaDoorEvA
import Derived.Below
namespace Go.Ev
open Go
set_option linter.unusedSimpArgs false
set_option linter.unusedVariables false

/-! ### the trie -/
namespace Tr
variable {α : Type}
theorem get_setF (f : Nat) : ∀ (t : Tr α) (k : Nat) (a : α) (j : Nat), k < f → (setF f t k a).get j = if j = k then some a else t.get j := by
  induction f with
  | zero => intro t k a j h; omega
  | succ f ih =>
    intro t k a j h
    cases t with
    | e =>
      cases k with
      | zero => cases j with
        | zero => simp [setF, get]
        | succ j => simp [setF, get]
      | succ k =>
        cases j with
        | zero =>
          simp only [setF]
          cases hk : Nat.beq (k % 2) 0 <;> simp [get]
        | succ j =>
          simp only [setF]
          cases hk : Nat.beq (k % 2) 0 <;> cases hj : Nat.beq (j % 2) 0 <;>
            simp only [cond_true, cond_false, get, hj, ih _ _ _ _ (show k / 2 < f by omega)] <;>
            (try (have hk' : k % 2 ≠ 0 := by intro h; rw [h] at hk; cases hk)) <;>
            (try (have hj' : j % 2 ≠ 0 := by intro h; rw [h] at hj; cases hj)) <;>
            (try (have hk'' : k % 2 = 0 := by simpa using hk)) <;>
            (try (have hj'' : j % 2 = 0 := by simpa using hj)) <;>
            (by_cases hh : j = k <;> first
              | (subst hh; first | (exfalso; omega) | simp)
              | (rw [if_neg (by omega), if_neg (by omega)])
              | (rw [if_neg (by omega)]))
    | n l v r =>
      cases k with
      | zero => cases j with
        | zero => simp [setF, get]
        | succ j => simp [setF, get]
      | succ k =>
        cases j with
        | zero =>
          simp only [setF]
          cases hk : Nat.beq (k % 2) 0 <;> simp [get]
        | succ j =>
          simp only [setF]
          cases hk : Nat.beq (k % 2) 0 <;> cases hj : Nat.beq (j % 2) 0 <;>
            simp only [cond_true, cond_false, get, hj, ih _ _ _ _ (show k / 2 < f by omega)] <;>
            (try (have hk' : k % 2 ≠ 0 := by intro h; rw [h] at hk; cases hk)) <;>
            (try (have hj' : j % 2 ≠ 0 := by intro h; rw [h] at hj; cases hj)) <;>
            (try (have hk'' : k % 2 = 0 := by simpa using hk)) <;>
            (try (have hj'' : j % 2 = 0 := by simpa using hj)) <;>
            (by_cases hh : j = k <;> first
              | (subst hh; first | (exfalso; omega) | simp)
              | (rw [if_neg (by omega), if_neg (by omega)])
              | (rw [if_neg (by omega)]))

theorem get_set (t : Tr α) (k : Nat) (a : α) (j : Nat) : (t.set k a).get j = if j = k then some a else t.get j :=
  get_setF (k + 1) t k a j (Nat.lt_succ_self k)
theorem get_e (j : Nat) : (Tr.e : Tr α).get j = none := rfl
theorem get_ofList : ∀ (l : List α) (k : Nat) (t : Tr α) (j : Nat), (ofList l k t).get j = if k ≤ j then (match l[j - k]? with | some a => some a | none => t.get j) else t.get j
  | [], k, t, j => by simp [ofList]
  | a :: l, k, t, j => by
    simp only [ofList, get_ofList l (k + 1) (t.set k a) j, get_set]
    by_cases h : k ≤ j
    · by_cases h' : k = j
      · subst h'; rw [if_neg (by omega), if_pos (Nat.le_refl _)]; simp
      · rw [if_pos (by omega), if_pos h, if_neg (by omega), show j - k = (j - (k + 1)) + 1 by omega]; simp
    · rw [if_neg (by omega), if_neg h, if_neg (by omega)]
end Tr

/-! ### values under a renaming -/
structure Loc where
  blk : Nat
  extra : Nat

abbrev Mp := Nat → Option Loc
def Mp.le (m m' : Mp) : Prop := ∀ b L, m b = some L → m' b = some L
theorem Mp.le_refl (m : Mp) : m.le m := fun _ _ h => h
theorem Mp.le_trans {a b c : Mp} (h : a.le b) (k : b.le c) : a.le c := fun x L e => k x L (h x L e)

mutual
inductive VRel (m : Mp) : Value → Value → Prop
  | bool (b : Bool) : VRel m (.bool b) (.bool b)
  | int (k : IntKind) (n : Int) : VRel m (.int k n) (.int k n)
  | float (k : FloatKind) (n : Nat) : VRel m (.float k n) (.float k n)
  | complex (k : FloatKind) (x y : Nat) : VRel m (.complex k x y) (.complex k x y)
  | string (s : ByteArray) : VRel m (.string s) (.string s)
  | nilp : VRel m (.pointer none) (.pointer none)
  | ptr {b o : Nat} {L : Loc} (h : m b = some L) : VRel m (.pointer (some ⟨b, o, none⟩)) (.pointer (some ⟨L.blk, o, none⟩))
  | nils : VRel m (.slice none 0 0) (.slice none 0 0)
  | slc {b o len cap cap' : Nat} {L : Loc} {a : Addr} (h : m b = some L) (hl : len ≤ cap / 2) (hc : cap' = cap / 2 + (cap % 2) * L.extra)
      (ha : a = ⟨L.blk, o, none⟩ ∨ cap' = 0) : VRel m (.slice (some ⟨b, o, none⟩) len cap) (.slice (some a) len cap')
  | nilm : VRel m (.map none) (.map none)
  | mp {b : Nat} {L : Loc} (h : m b = some L) : VRel m (.map (some b)) (.map (some L.blk))
  | nilc : VRel m (.chan none) (.chan none)
  | hole {v : Value} : VRel m (.chan (some 0)) v
  | func {fn : Fn} {f f' c c' : Array Value} (hf : VL m f.toList f'.toList) (hc : VL m c.toList c'.toList) : VRel m (.func fn f c) (.func fn f' c')
  | nilFunc : VRel m .nilFunc .nilFunc
  | nilIface : VRel m .nilIface .nilIface
  | iface {t : TypeId} {v v' : Value} (h : VRel m v v') : VRel m (.iface t v) (.iface t v')
  | agg {cs cs' : Array Value} (h : VL m cs.toList cs'.toList) : VRel m (.agg cs) (.agg cs')
  | tuple {cs cs' : Array Value} (h : VL m cs.toList cs'.toList) : VRel m (.tuple cs) (.tuple cs')
inductive VL (m : Mp) : List Value → List Value → Prop
  | nil : VL m [] []
  | cons {a a' : Value} {l l' : List Value} (h : VRel m a a') (t : VL m l l') : VL m (a :: l) (a' :: l')
end

mutual
theorem VRel.mono {m m' : Mp} (hm : m.le m') {v v' : Value} (h : VRel m v v') : VRel m' v v' := by
  cases h with
  | bool b => exact .bool b
  | int k n => exact .int k n
  | float k n => exact .float k n
  | complex k x y => exact .complex k x y
  | string s => exact .string s
  | nilp => exact .nilp
  | ptr h => exact .ptr (hm _ _ h)
  | nils => exact .nils
  | slc h hl hc ha => exact .slc (hm _ _ h) hl hc ha
  | nilm => exact .nilm
  | mp h => exact .mp (hm _ _ h)
  | nilc => exact .nilc
  | hole => exact .hole
  | func hf hc => exact .func (hf.mono hm) (hc.mono hm)
  | nilFunc => exact .nilFunc
  | nilIface => exact .nilIface
  | iface h => exact .iface (h.mono hm)
  | agg h => exact .agg (h.mono hm)
  | tuple h => exact .tuple (h.mono hm)
theorem VL.mono {m m' : Mp} (hm : m.le m') {l l' : List Value} (h : VL m l l') : VL m' l l' := by
  cases h with
  | nil => exact .nil
  | cons h t => exact .cons (h.mono hm) (t.mono hm)
end

namespace VL
variable {m : Mp}
theorem length {l l' : List Value} (h : VL m l l') : l.length = l'.length := by
  induction l generalizing l' with
  | nil => cases h; rfl
  | cons a l ih => cases h with | cons h t => simp [ih t]
theorem getElem? {l l' : List Value} (h : VL m l l') (i : Nat) : ∀ {a : Value}, l[i]? = some a → ∃ a', l'[i]? = some a' ∧ VRel m a a' := by
  induction l generalizing l' i with
  | nil => intro a h; simp at h
  | cons x l ih =>
    cases h with
    | cons h t =>
      intro a ha
      cases i with
      | zero => simp at ha; subst ha; exact ⟨_, rfl, h⟩
      | succ i => simp at ha; simpa using ih t i ha
theorem append {a a' b b' : List Value} (h : VL m a a') (k : VL m b b') : VL m (a ++ b) (a' ++ b') := by
  induction a generalizing a' with
  | nil => cases h; exact k
  | cons x a ih => cases h with | cons h t => exact .cons h (ih t)
theorem take {l l' : List Value} (h : VL m l l') (n : Nat) : VL m (l.take n) (l'.take n) := by
  induction l generalizing l' n with
  | nil => cases h; simp; exact .nil
  | cons x l ih => cases h with | cons h t => cases n with
    | zero => exact .nil
    | succ n => exact .cons h (ih t n)
theorem drop {l l' : List Value} (h : VL m l l') (n : Nat) : VL m (l.drop n) (l'.drop n) := by
  induction l generalizing l' n with
  | nil => cases h; simp; exact .nil
  | cons x l ih => cases n with
    | zero => exact h
    | succ n => cases h with | cons h t => exact ih t n
theorem splice {a a' b b' : List Value} (h : VL m a a') (k : VL m b b') (o : Nat) : VL m (Ev.splice a o b) (Ev.splice a' o b') := by
  unfold Ev.splice
  rw [k.length]
  exact ((h.take o).append k).append (h.drop _)
theorem of_get {l l' : List Value} (hl : l.length = l'.length) (h : ∀ (i : Nat) (a a' : Value), l[i]? = some a → l'[i]? = some a' → VRel m a a') : VL m l l' := by
  induction l generalizing l' with
  | nil => cases l' with | nil => exact .nil | cons => simp at hl
  | cons x l ih => cases l' with
    | nil => simp at hl
    | cons y l' => exact .cons (h 0 x y rfl rfl) (ih (by simpa using hl) fun i a a' e e' => h (i + 1) a a' (by simpa using e) (by simpa using e'))
end VL

/-! ### flat values -/
theorem VRel.scal_eq {m : Mp} {v v' : Value} (h : VRel m v v') (hs : scal v = true) : v' = v := by
  cases h <;> simp [scal] at hs <;> first | rfl | skip
theorem VL.scal_eq {m : Mp} {l l' : List Value} (h : VL m l l') (hs : l.all scal = true) : l' = l := by
  induction l generalizing l' with
  | nil => cases h; rfl
  | cons x l ih => cases h with
    | cons h t =>
      simp at hs
      rw [h.scal_eq hs.1, ih t (by simpa using hs.2)]
theorem VRel.flat_eq {m : Mp} {v v' : Value} (h : VRel m v v') (hs : flat v = true) : v' = v := by
  cases h with
  | agg h => rename_i cs cs'; have := h.scal_eq (by simpa [flat] using hs); rw [Array.toList_inj.1 this]
  | tuple h => rename_i cs cs'; have := h.scal_eq (by simpa [flat] using hs); rw [Array.toList_inj.1 this]
  | iface h => rw [h.scal_eq (by simpa [flat] using hs)]
  | func hf hc =>
    rename_i fn f f' c c'
    have h1 : f = #[] ∧ c = #[] := by
      cases fn <;> simp [flat, scal] at hs
      exact hs
    obtain ⟨rfl, rfl⟩ := h1
    have e1 : f' = #[] := by cases f' with | mk l => cases hf; rfl
    have e2 : c' = #[] := by cases c' with | mk l => cases hc; rfl
    rw [e1, e2]
  | slc h => simp [flat, scal] at hs
  | ptr h => simp [flat, scal] at hs
  | mp h => simp [flat, scal] at hs
  | hole => simp [flat, scal] at hs
  | _ => rfl
theorem scal_refl {m : Mp} {v : Value} (hs : scal v = true) : VRel m v v := by
  cases v with
  | bool b => exact .bool b
  | int k n => exact .int k n
  | float k b => exact .float k b
  | complex k a b => exact .complex k a b
  | string s => exact .string s
  | pointer a => cases a with | none => exact .nilp | some a => simp [scal] at hs
  | slice a l c =>
    cases a with
    | none => cases l with
      | zero => cases c with
        | zero => exact .nils
        | succ c => simp [scal] at hs
      | succ l => simp [scal] at hs
    | some a => simp [scal] at hs
  | map r => cases r with | none => exact .nilm | some r => simp [scal] at hs
  | chan r => cases r with | none => exact .nilc | some r => simp [scal] at hs
  | func fn f c => simp [scal] at hs
  | nilFunc => exact .nilFunc
  | iface t v => simp [scal] at hs
  | nilIface => exact .nilIface
  | agg cs => simp [scal] at hs
  | tuple cs => simp [scal] at hs
theorem scals_refl {m : Mp} {l : List Value} (hs : l.all scal = true) : VL m l l := by
  induction l with
  | nil => exact .nil
  | cons x l ih => simp at hs; exact .cons (scal_refl hs.1) (ih (by simpa using hs.2))
theorem flat_refl {m : Mp} {v : Value} (hs : flat v = true) : VRel m v v := by
  cases v with
  | agg cs => exact .agg (scals_refl (by simpa [flat] using hs))
  | tuple cs => exact .tuple (scals_refl (by simpa [flat] using hs))
  | iface t v => exact .iface (scal_refl (by simpa [flat] using hs))
  | func fn f c =>
    have h1 : f = #[] ∧ c = #[] := by
      cases fn <;> simp [flat, scal] at hs
      exact hs
    obtain ⟨rfl, rfl⟩ := h1
    exact .func .nil .nil
  | _ => exact scal_refl (by simpa [flat] using hs)
theorem flat_of_scal {v : Value} (h : scal v = true) : flat v = true := by
  cases v <;> simp [scal] at h <;> simp [flat, scal, h]
theorem VRel.scal_iff {m : Mp} {v v' : Value} (h : VRel m v v') : VRel m v v' ∧ (scal v = true → v' = v) := ⟨h, h.scal_eq⟩
theorem VRel.cells {m : Mp} {v v' : Value} (h : VRel m v v') (hb : boxable v = true) : VL m v.cells.toList v'.cells.toList := by
  cases h with
  | agg h => exact h
  | hole => simp [boxable] at hb
  | _ => simp only [Value.cells]; exact .cons (by constructor <;> assumption) .nil
theorem VRel.isCell {m : Mp} {v v' : Value} (h : VRel m v v') (hc : isCell v = true) : isCell v' = true := by
  cases h <;> first | rfl | (simp [Ev.isCell] at hc)
theorem isCell_boxable {v : Value} (h : Ev.isCell v = true) : boxable v = true := by
  unfold boxable
  split
  · simp [Ev.isCell] at h
  · rfl
theorem boxable_of {v : Value} (h : v.cells.toList.all Ev.isCell = true) : boxable v = true := by
  unfold boxable
  split
  · simp [Value.cells, Ev.isCell] at h
  · rfl
theorem flat_boxable {v : Value} (h : flat v = true) : boxable v = true := by
  unfold boxable
  split
  · simp [flat, scal] at h
  · rfl

/-! ### computations that ask nothing but the program -/
theorem prun_sound {α : Type} {P : Program} : ∀ {s : Sem α} {a : α}, prun P s = some a → ∀ w, s.run P w = .ok a w := by
  intro s
  induction s with
  | pure a => intro b h w; simp [prun] at h; subst h; rfl
  | program k ih => intro b h w; exact ih P h w
  | mark mk k ih => intro b h w; exact ih h w
  | _ => intro b h; simp [prun] at h

/-! ### frames -/
structure FrRel (m : Mp) (nt : Nat) (fr : Fr) (tmps : Array Value) : Prop where
  size : tmps.size = nt
  get : ∀ t v, fr.get t = some v → ∃ v', tmps[t]? = some v' ∧ VRel m v v'

theorem FrRel.mono {m m' : Mp} {nt : Nat} {fr : Fr} {tmps : Array Value} (hm : m.le m') (h : FrRel m nt fr tmps) : FrRel m' nt fr tmps :=
  ⟨h.size, fun t v e => let ⟨v', e', r⟩ := h.get t v e; ⟨v', e', r.mono hm⟩⟩

theorem FrRel.set {m : Mp} {nt : Nat} {fr : Fr} {tmps : Array Value} (h : FrRel m nt fr tmps) {d : Nat} (hd : d < nt) {v v' : Value} (hv : VRel m v v') :
    FrRel m nt (fr.set d v) (tmps.setIfInBounds d v') := by
  refine ⟨by simp [h.size], fun t u e => ?_⟩
  rw [Tr.get_set] at e
  by_cases hh : t = d
  · subst hh
    simp at e; subst e
    exact ⟨v', by simp [h.size, hd], hv⟩
  · rw [if_neg hh] at e
    obtain ⟨u', e', r⟩ := h.get t u e
    exact ⟨u', by rw [Array.getElem?_setIfInBounds_ne (by omega)]; exact e', r⟩

theorem FrRel.put {m : Mp} {nt : Nat} {fr : Fr} {a : Act} (h : FrRel m nt fr a.tmps) {dst : Option Tmp} (hd : ∀ d, dst = some d → d < nt) {v v' : Value} (hv : VRel m v v') :
    FrRel m nt (Ev.put fr dst v) (a.put dst v').tmps := by
  cases dst with
  | none => exact h
  | some d => exact h.set (hd d rfl) hv

theorem ev1_sound {m : Mp} {nt : Nat} {fr : Fr} {a : Act} (h : FrRel m nt fr a.tmps) {x : Operand} {v : Value} (e : ev1 fr x = some v) : VRel m v (a.eval x) := by
  cases x with
  | tmp t =>
    obtain ⟨v', e', r⟩ := h.get t v e
    simp only [Act.eval, Array.getD_eq_getD_getElem?, e', Option.getD_some]
    exact r
  | const c =>
    simp only [ev1] at e
    cases hf : flat c with
    | true => rw [hf] at e; simp at e; subst e; exact flat_refl hf
    | false => rw [hf] at e; simp at e
  | func f => simp [ev1] at e; subst e; exact .func .nil .nil
  | global g => simp [ev1] at e

theorem evs_sound {m : Mp} {nt : Nat} {fr : Fr} {a : Act} (h : FrRel m nt fr a.tmps) : ∀ {xs : List Operand} {vs : List Value}, evs fr xs = some vs → VL m vs (xs.map a.eval)
  | [], vs, e => by simp [evs] at e; subst e; exact .nil
  | x :: xs, vs, e => by
    simp only [evs, Option.bind_eq_some_iff] at e
    obtain ⟨v, e1, us, e2, e3⟩ := e
    simp at e3; subst e3
    exact .cons (ev1_sound h e1) (evs_sound h e2)

end Go.Ev
