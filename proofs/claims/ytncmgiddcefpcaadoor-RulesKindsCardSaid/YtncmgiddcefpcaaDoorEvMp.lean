/- Ev: maps, as lists of pairs. -/
import Derived.Test.YtncmgiddcefpcaaDoorEvAP
import Derived.Test.YtncmgiddcefpcaaDoorConM
namespace Go.Ev
open Go Go.Con
set_option linter.unusedSimpArgs false
set_option linter.unusedVariables false

theorem map_eraseIdx' {α β : Type} (f : α → β) : ∀ (l : List α) (i : Nat), (l.eraseIdx i).map f = (l.map f).eraseIdx i
  | [], _ => rfl
  | _ :: _, 0 => rfl
  | a :: l, i + 1 => by simp [map_eraseIdx' f l i]
/-- A key type: how its values are laid, and that the model finds a key just where it is the same. -/
structure KeyOK {κ : Type} [DecidableEq κ] (P : Program) (kt : TypeId) (K : κ → Value) : Prop where
  flat : ∀ x, flat (K x) = true
  chk : ∀ b x, prun P (Instr.checkKey b 10000 kt (K x)) = some ()
  find : ∀ (x : κ) (es : List MapEntry) (l : List (κ × Value)), es.map (fun e => (e.key, e.val)) = l.map (fun p => (K p.1, p.2)) → prun P (Instr.findKey kt (K x) es) = some ((l.findIdx? (fun p => decide (p.1 = x))).bind fun i => (l[i]?).map fun p => (i, p.2))
  same : ∀ x, Instr.sameBits 10000 (K x) (K x) = true

/-- Each entry has its own number. -/
def BornOK (es : List MapEntry) (c : Nat) : Prop := (es.map (·.born)).Nodup ∧ ∀ e ∈ es, e.born < c
theorem BornOK.nil (c : Nat) : BornOK [] c := ⟨by simp, by simp⟩
theorem BornOK.add {es : List MapEntry} {c : Nat} (b : BornOK es c) (k v : Value) : BornOK (es ++ [⟨k, v, c⟩]) (c + 1) := by
  refine ⟨?_, fun e he => ?_⟩
  · rw [List.map_append, List.nodup_append]
    refine ⟨b.1, by simp, fun x hx y hy => ?_⟩
    simp only [List.map_cons, List.map_nil, List.mem_singleton] at hy
    simp only [List.mem_map] at hx
    obtain ⟨e, he, rfl⟩ := hx
    have := b.2 e he
    omega
  · rcases List.mem_append.1 he with h | h
    · have := b.2 e h; omega
    · simp at h; subst h; simp
theorem BornOK.set {es : List MapEntry} {c : Nat} (b : BornOK es c) {i : Nat} {e : MapEntry} (hi : es[i]? = some e) (k v : Value) : BornOK (es.set i { e with key := k, val := v }) c := by
  refine ⟨?_, fun x hx => ?_⟩
  · rw [List.map_set]
    have : (es.map (·.born)).set i e.born = es.map (·.born) := by
      apply List.ext_getElem?
      intro j
      by_cases hj : i = j
      · subst hj
        have hlt : i < es.length := (List.getElem?_eq_some_iff.1 hi).1
        rw [List.getElem?_set_self (by simpa using hlt), List.getElem?_map, hi]; rfl
      · rw [List.getElem?_set_ne hj]
    rw [this]; exact b.1
  · rcases List.mem_or_eq_of_mem_set hx with h | h
    · exact b.2 x h
    · subst h; exact b.2 e (List.mem_of_getElem? hi)
theorem BornOK.erase {es : List MapEntry} {c : Nat} (b : BornOK es c) (i : Nat) : BornOK (es.eraseIdx i) c := by
  refine ⟨?_, fun e he => b.2 e (List.mem_of_mem_eraseIdx he)⟩
  rw [map_eraseIdx']
  exact (List.eraseIdx_sublist _ _).nodup b.1

/-- The pairs that a map holds. -/
def MapAt {κ υ : Type} (K : κ → Value) (V : υ → Value) (h : Hp) (b : Nat) (l : List (κ × υ)) : Prop := ∃ es c, h.get b = some (.map es c) ∧ es.map (fun e => (e.key, e.val)) = (l.map fun p => (K p.1, V p.2)) ∧ BornOK es c ∧ (l.map (·.1)).Nodup
theorem MapAt.eq {κ υ : Type} {K : κ → Value} {V : υ → Value} {h h' : Hp} {b : Nat} {l : List (κ × υ)} (m : MapAt K V h b l) (e : h'.get b = h.get b) : MapAt K V h' b l := by
  obtain ⟨es, c, h1, h2⟩ := m; exact ⟨es, c, by rw [e]; exact h1, h2⟩

section
variable {κ υ : Type} [DecidableEq κ]
theorem look_find (l : List (κ × υ)) (x : κ) : mLook l x = ((l.findIdx? (fun p => decide (p.1 = x))).bind fun i => (l[i]?).map fun p => p.2) := by
  induction l with
  | nil => rfl
  | cons a l ih =>
    obtain ⟨k, v⟩ := a
    rw [mLook, List.findIdx?_cons]
    by_cases hk : k = x
    · simp [hk]
    · simp only [hk, if_false, decide_false, Bool.false_eq_true, ih]
      cases h : l.findIdx? (fun p => decide (p.1 = x)) with
      | none => simp
      | some i => simp
theorem findIdx_map (V : υ → Value) (l : List (κ × υ)) (x : κ) : (l.map fun p => (p.1, V p.2)).findIdx? (fun p => decide (p.1 = x)) = l.findIdx? (fun p => decide (p.1 = x)) := by
  rw [List.findIdx?_map]; rfl
theorem put_find (l : List (κ × υ)) (x : κ) (y : υ) : mPut l x y = match l.findIdx? (fun p => decide (p.1 = x)) with
    | some i => l.set i (x, y)
    | none => l ++ [(x, y)] := by
  induction l with
  | nil => rfl
  | cons a l ih =>
    obtain ⟨k, v⟩ := a
    rw [mPut, List.findIdx?_cons]
    by_cases hk : k = x
    · simp [hk]
    · simp only [hk, if_false, decide_false, Bool.false_eq_true, ih]
      cases h : l.findIdx? (fun p => decide (p.1 = x)) with
      | none => simp
      | some i => simp
theorem del_find (l : List (κ × υ)) (x : κ) : mDel l x = match l.findIdx? (fun p => decide (p.1 = x)) with
    | some i => l.eraseIdx i
    | none => l := by
  induction l with
  | nil => rfl
  | cons a l ih =>
    obtain ⟨k, v⟩ := a
    rw [mDel, List.findIdx?_cons]
    by_cases hk : k = x
    · simp [hk]
    · simp only [hk, if_false, decide_false, Bool.false_eq_true, ih]
      cases h : l.findIdx? (fun p => decide (p.1 = x)) with
      | none => simp
      | some i => simp
end

section
variable {κ υ : Type} [DecidableEq κ] {P : Program} {t kt et : TypeId} {K : κ → Value} {V : υ → Value} {h : Hp} {b : Nat} {l : List (κ × υ)}
theorem find_at (ok : KeyOK P kt K) {es : List MapEntry} (he : es.map (fun e => (e.key, e.val)) = l.map fun p => (K p.1, V p.2)) (x : κ) :
    prun P (Instr.findKey kt (K x) es) = some ((l.findIdx? (fun p => decide (p.1 = x))).bind fun i => (l[i]?).map fun p => (i, V p.2)) := by
  rw [ok.find x es (l.map fun p => (p.1, V p.2)) (by rw [he, List.map_map]; rfl), findIdx_map]
  congr 1
  congr 1
  funext i
  rw [List.getElem?_map]
  cases l[i]? <;> rfl

theorem lookup_at (ht : tMap P t = some (kt, et)) (ok : KeyOK P kt K) (m : MapAt K V h b l) {z : Value} (hz : tZero P et = some z) (hf : flat z = true) (x : κ) (f : Bool) :
    evLookup P t (.map (some b)) (K x) f h = some (match mLook l x with
      | some v => bif f then .tuple #[V v, .bool true] else V v
      | none => bif f then .tuple #[z, .bool false] else z) := by
  obtain ⟨es, c, hg, he, _⟩ := m
  unfold evLookup
  simp only [ht, Option.bind_some, ok.flat, Bool.not_true, cond_false, mapOf, hg]
  have : prun P (do Instr.checkKey es.isEmpty 10000 kt (K x); Instr.findKey kt (K x) es) = prun P (Instr.findKey kt (K x) es) := by
    rw [prun_bind, ok.chk, Option.bind_some]
  rw [this, find_at ok he, look_find]
  cases hi : l.findIdx? (fun p => decide (p.1 = x)) with
  | none => simp [hz, hf]
  | some i =>
    have hlt : i < l.length := List.findIdx?_eq_some_iff_getElem.1 hi |>.1
    simp [List.getElem?_eq_getElem hlt]

omit [DecidableEq κ] in
theorem keys_set {l : List (κ × υ)} {i : Nat} {x : κ} {y : υ} (h : (l.map (·.1)).Nodup) (hi : l[i]?.map (·.1) = some x) : ((l.set i (x, y)).map (·.1)).Nodup := by
  rw [List.map_set]
  have : (l.map (·.1)).set i x = l.map (·.1) := by
    apply List.ext_getElem?
    intro j
    by_cases hj : i = j
    · subst hj
      rcases hh : l[i]? with _ | p
      · rw [hh] at hi; cases hi
      · have hlt : i < l.length := (List.getElem?_eq_some_iff.1 hh).1
        rw [List.getElem?_set_self (by simpa using hlt), List.getElem?_map, hi]
    · rw [List.getElem?_set_ne hj]
  rw [this]; exact h
theorem update_at (ht : tMap P t = some (kt, et)) (ok : KeyOK P kt K) (m : MapAt K V h b l) (x : κ) (y : υ) :
    ∃ h', evMapUpdate P t (.map (some b)) (K x) (V y) h = some h' ∧ MapAt K V h' b (mPut l x y) ∧ h'.next = h.next ∧ ∀ c, c ≠ b → h'.get c = h.get c := by
  obtain ⟨es, c, hg, he, hb, hn⟩ := m
  unfold evMapUpdate
  simp only [ht, hg, ok.flat, Bool.not_true, cond_false]
  have : prun P (do Instr.checkKey false 10000 kt (K x); Instr.findKey kt (K x) es) = prun P (Instr.findKey kt (K x) es) := by
    rw [prun_bind, ok.chk, Option.bind_some]
  rw [this, find_at ok he, put_find]
  cases hi : l.findIdx? (fun p => decide (p.1 = x)) with
  | none =>
    refine ⟨h.set b (.map (es ++ [⟨K x, V y, c⟩]) (c + 1)), by simp, ⟨_, _, Hp.get_set_self _ _ _, by simp [he], hb.add _ _, ?_⟩, rfl, fun k hk => Hp.get_set_ne hk⟩
    rw [List.map_append, List.nodup_append]
    refine ⟨hn, by simp, fun a ha b' hb' => ?_⟩
    simp only [List.map_cons, List.map_nil, List.mem_singleton] at hb'
    subst hb'
    simp only [List.mem_map] at ha
    obtain ⟨p, hp, rfl⟩ := ha
    have := (List.findIdx?_eq_none_iff.1 hi) p hp
    simpa using this
  | some i =>
    obtain ⟨hlt, h1, _⟩ := List.findIdx?_eq_some_iff_getElem.1 hi
    have hl : es.length = l.length := by have := congrArg List.length he; simpa using this
    have hei : es[i]? = some es[i] := List.getElem?_eq_getElem (by omega)
    have hkey : (es[i]'(by omega)).key = K x := by
      have h2 : (es.map fun e => (e.key, e.val))[i]? = (l.map fun p => (K p.1, V p.2))[i]? := by rw [he]
      rw [List.getElem?_map, List.getElem?_map, hei, List.getElem?_eq_getElem hlt] at h2
      simp only [Option.map_some, Option.some.injEq, Prod.mk.injEq] at h2
      rw [h2.1]
      have := of_decide_eq_true h1
      rw [this]
    refine ⟨h.set b (.map (es.set i { es[i]'(by omega) with key := K x, val := V y }) c), ?_, ⟨_, _, Hp.get_set_self _ _ _, ?_, hb.set hei _ _, ?_⟩, rfl, fun k hk => Hp.get_set_ne hk⟩
    · simp only [Option.bind_some, List.getElem?_eq_getElem hlt, Option.map_some, hei, hkey, ok.same, cond_true]
    · rw [List.map_set, he, List.map_set]
    · refine keys_set hn ?_
      rw [List.getElem?_eq_getElem hlt]
      exact congrArg some (of_decide_eq_true h1)

theorem delete_at (ht : tMap P t = some (kt, et)) (ok : KeyOK P kt K) (m : MapAt K V h b l) (x : κ) :
    ∃ h', evDelete P t (.map (some b)) (K x) h = some h' ∧ MapAt K V h' b (mDel l x) ∧ h'.next = h.next ∧ ∀ c, c ≠ b → h'.get c = h.get c := by
  have m0 := m
  obtain ⟨es, c, hg, he, hb, hn⟩ := m
  unfold evDelete
  simp only [ht, hg, ok.flat, Bool.not_true, cond_false]
  have : prun P (do Instr.checkKey es.isEmpty 10000 kt (K x); Instr.findKey kt (K x) es) = prun P (Instr.findKey kt (K x) es) := by
    rw [prun_bind, ok.chk, Option.bind_some]
  rw [this, find_at ok he, del_find]
  cases hi : l.findIdx? (fun p => decide (p.1 = x)) with
  | none => exact ⟨h, by simp, m0, rfl, fun _ _ => rfl⟩
  | some i =>
    obtain ⟨hlt, h1, _⟩ := List.findIdx?_eq_some_iff_getElem.1 hi
    refine ⟨h.set b (.map (es.eraseIdx i) c), ?_, ⟨es.eraseIdx i, c, Hp.get_set_self _ _ _, ?_, hb.erase i, ?_⟩, rfl, fun k hk => Hp.get_set_ne hk⟩
    · simp [List.getElem?_eq_getElem hlt]
    · rw [map_eraseIdx', he, map_eraseIdx']
    · rw [map_eraseIdx']; exact (List.eraseIdx_sublist _ _).nodup hn

omit [DecidableEq κ] in
theorem len_at (m : MapAt K V h b l) : mapLen h (.map (some b)) = some (.int .i64 l.length) := by
  obtain ⟨es, c, hg, he, _⟩ := m
  have hl : es.length = l.length := by have := congrArg List.length he; simpa using this
  unfold mapLen mapOf
  simp only [hg, Option.map_some, hl]
end

/-! ### a map as a function -/
section
variable {κ υ : Type} [DecidableEq κ]
def upd (f : κ → Option υ) (x : κ) (y : Option υ) : κ → Option υ := fun z => if z = x then y else f z
theorem upd_self (f : κ → Option υ) (x : κ) (y : Option υ) : upd f x y x = y := if_pos rfl
theorem upd_ne (f : κ → Option υ) {x z : κ} (y : Option υ) (h : z ≠ x) : upd f x y z = f z := if_neg h
theorem look_put (x : κ) (y : υ) : ∀ (l : List (κ × υ)) (z : κ), mLook (mPut l x y) z = if z = x then some y else mLook l z
  | [], z => by
    simp only [mPut, mLook]
    by_cases h : x = z
    · simp [h]
    · simp [h, Ne.symm h]
  | (k, v) :: l, z => by
    unfold mPut
    by_cases hk : k = x
    · subst hk
      simp only [if_true, mLook]
      by_cases h : k = z
      · simp [h]
      · simp [h, Ne.symm h]
    · simp only [hk, if_false, mLook]
      by_cases h : k = z
      · subst h; simp [hk]
      · simp only [h, if_false]; exact look_put x y l z
theorem look_none {l : List (κ × υ)} {z : κ} (h : z ∉ l.map (·.1)) : mLook l z = none := by
  induction l with
  | nil => rfl
  | cons p l ih =>
    obtain ⟨k, v⟩ := p
    simp only [List.map_cons, List.mem_cons, not_or] at h
    simp only [mLook, Ne.symm h.1, if_false]
    exact ih h.2
theorem look_del (x : κ) : ∀ (l : List (κ × υ)), (l.map (·.1)).Nodup → ∀ z, mLook (mDel l x) z = if z = x then none else mLook l z
  | [], _, z => by simp [mDel, mLook]
  | (k, v) :: l, hn, z => by
    simp only [List.map_cons, List.nodup_cons] at hn
    unfold mDel
    by_cases hk : k = x
    · subst hk
      simp only [if_true, mLook]
      by_cases h : z = k
      · subst h; simp [look_none hn.1]
      · simp [h, Ne.symm h]
    · simp only [hk, if_false, mLook]
      by_cases h : k = z
      · subst h; simp [hk]
      · simp only [h, if_false]; exact look_del x l hn.2 z

/-- A map, by what stands at each key. -/
def MapIs (K : κ → Value) (V : υ → Value) (h : Hp) (b : Nat) (f : κ → Option υ) : Prop := ∃ l, MapAt K V h b l ∧ ∀ x, mLook l x = f x
variable {P : Program} {t kt et : TypeId} {K : κ → Value} {V : υ → Value} {h h' : Hp} {b : Nat} {f : κ → Option υ}
theorem MapIs.eq (m : MapIs K V h b f) (e : h'.get b = h.get b) : MapIs K V h' b f := by
  obtain ⟨l, h1, h2⟩ := m; exact ⟨l, h1.eq e, h2⟩
theorem MapIs.get (m : MapIs K V h b f) : ∃ es c, h.get b = some (.map es c) := by
  obtain ⟨l, ⟨es, c, h1, _⟩, _⟩ := m; exact ⟨es, c, h1⟩
theorem MapIs.new (h : Hp) (K : κ → Value) (V : υ → Value) : MapIs K V (h.push (.map [] 0)) h.next (fun _ => none) :=
  ⟨[], ⟨[], 0, Hp.get_push_self _ _, rfl, .nil _, by simp⟩, fun _ => rfl⟩
theorem MapIs.look (m : MapIs K V h b f) (ht : tMap P t = some (kt, et)) (ok : KeyOK P kt K) {z : Value} (hz : tZero P et = some z) (hf : flat z = true) (x : κ) (fl : Bool) :
    evLookup P t (.map (some b)) (K x) fl h = some (match f x with
      | some v => bif fl then .tuple #[V v, .bool true] else V v
      | none => bif fl then .tuple #[z, .bool false] else z) := by
  obtain ⟨l, h1, h2⟩ := m
  rw [lookup_at ht ok h1 hz hf, h2]
theorem MapIs.put (m : MapIs K V h b f) (ht : tMap P t = some (kt, et)) (ok : KeyOK P kt K) (x : κ) (y : υ) :
    ∃ h', evMapUpdate P t (.map (some b)) (K x) (V y) h = some h' ∧ MapIs K V h' b (upd f x (some y)) ∧ h'.next = h.next ∧ ∀ c, c ≠ b → h'.get c = h.get c := by
  obtain ⟨l, h1, h2⟩ := m
  obtain ⟨h', e1, e2, e3, e4⟩ := update_at ht ok h1 x y
  refine ⟨h', e1, ⟨_, e2, fun z => ?_⟩, e3, e4⟩
  rw [look_put, h2]; rfl
theorem MapIs.del (m : MapIs K V h b f) (ht : tMap P t = some (kt, et)) (ok : KeyOK P kt K) (x : κ) :
    ∃ h', evDelete P t (.map (some b)) (K x) h = some h' ∧ MapIs K V h' b (upd f x none) ∧ h'.next = h.next ∧ ∀ c, c ≠ b → h'.get c = h.get c := by
  obtain ⟨l, h1, h2⟩ := m
  obtain ⟨h', e1, e2, e3, e4⟩ := delete_at ht ok h1 x
  refine ⟨h', e1, ⟨_, e2, fun z => ?_⟩, e3, e4⟩
  obtain ⟨_, _, _, _, _, hn⟩ := h1
  rw [look_del x l hn, h2]; rfl
end

/-! ### keys that are integers -/
def keyI (n : Int) : Value := .int .i64 n
theorem findNow_int (k : IntKind) (x : Int) : ∀ (es : List MapEntry) (l : List (Int × Value)) (i : Nat), es.map (fun e => (e.key, e.val)) = l.map (fun p => (keyI p.1, p.2)) →
    Instr.findNow (.int k) (keyI x) es i = some ((l.findIdx? (fun p => decide (p.1 = x))).bind fun j => (l[j]?).map fun p => (i + j, p.2))
  | [], [], i, _ => rfl
  | [], _ :: _, i, h => by simp at h
  | _ :: _, [], i, h => by simp at h
  | e :: es, p :: l, i, h => by
    simp only [List.map_cons, List.cons.injEq, Prod.mk.injEq] at h
    obtain ⟨⟨h1, h2⟩, h3⟩ := h
    have ih := findNow_int k x es l (i + 1) h3
    unfold Instr.findNow
    have hs : Instr.sameNow (.int k) (keyI x) e.key = some (x == p.1) := by rw [h1]; simp [Instr.sameNow, keyI]
    rw [hs, List.findIdx?_cons]
    by_cases hk : p.1 = x
    · have : (x == p.1) = true := by simp [hk]
      rw [this]; simp [hk, h2]
    · have : (x == p.1) = false := by simp; exact fun e => hk e.symm
      rw [this]
      simp only [ih, hk, decide_false, Bool.false_eq_true, if_false]
      cases hf : l.findIdx? (fun p => decide (p.1 = x)) with
      | none => simp
      | some j => simp only [Option.bind_some, Option.map_some, List.getElem?_cons_succ]; rw [show i + 1 + j = i + (j + 1) by omega]
theorem prun_underlying {P : Program} {t : TypeId} {d : TypeDesc} (ht : P.underlying t = some d) : prun P (Go.underlying t) = some d := by
  unfold Go.underlying
  rw [prun_bind]
  have : prun P Go.program = some P := rfl
  rw [this, Option.bind_some, ht]
  rfl
theorem keyI_ok {P : Program} {kt : TypeId} (ht : P.underlying kt = some (.int .i64)) : KeyOK P kt keyI := by
  have hu := prun_underlying ht
  refine ⟨fun x => rfl, fun b x => ?_, fun x es l he => ?_, fun x => ?_⟩
  · unfold Instr.checkKey
    rw [prun_bind, hu, Option.bind_some]
    rfl
  · unfold Instr.findKey
    rw [prun_bind, hu, Option.bind_some, findNow_int .i64 x es l 0 he]
    simp only [Nat.zero_add]
    rfl
  · simp [Instr.sameBits, keyI]

/-! ### keys that are structs -/
theorem findNow_struct (fs : Array Field) (k : Value) (e : MapEntry) (es : List MapEntry) (i : Nat) : Instr.findNow (.struct fs) k (e :: es) i = none := by
  unfold Instr.findNow; rfl
theorem findAsking_at {κ : Type} [DecidableEq κ] {P : Program} {kt : TypeId} {K : κ → Value} (HE : ∀ x y, prun P (Op.equal kt (K x) (K y)) = some (decide (x = y))) (x : κ) :
    ∀ (es : List MapEntry) (l : List (κ × Value)) (i : Nat), es.map (fun e => (e.key, e.val)) = l.map (fun p => (K p.1, p.2)) →
    prun P (Instr.findAsking kt (K x) es i) = some ((l.findIdx? (fun p => decide (p.1 = x))).bind fun j => (l[j]?).map fun p => (i + j, p.2))
  | [], [], i, _ => rfl
  | [], _ :: _, i, h => by simp at h
  | _ :: _, [], i, h => by simp at h
  | e :: es, p :: l, i, h => by
    simp only [List.map_cons, List.cons.injEq, Prod.mk.injEq] at h
    obtain ⟨⟨h1, h2⟩, h3⟩ := h
    have ih := findAsking_at HE x es l (i + 1) h3
    unfold Instr.findAsking
    rw [prun_bind, h1, HE, Option.bind_some, List.findIdx?_cons]
    by_cases hk : p.1 = x
    · have : x = p.1 := hk.symm
      simp only [this, decide_true, if_true, h2]
      simp; rfl
    · have : ¬ x = p.1 := fun e => hk e.symm
      simp only [this, decide_false, Bool.false_eq_true, if_false, ih, hk]
      cases hf : l.findIdx? (fun p => decide (p.1 = x)) with
      | none => simp
      | some j => simp only [Option.bind_some, Option.map_some, List.getElem?_cons_succ]; rw [show i + 1 + j = i + (j + 1) by omega]
theorem keyStruct_ok {κ : Type} [DecidableEq κ] {P : Program} {kt : TypeId} {K : κ → Value} {fs : Array Field} (ht : P.underlying kt = some (.struct fs)) (hf : ∀ x, flat (K x) = true) (hc : ∀ b x, prun P (Instr.checkKey b 10000 kt (K x)) = some ())
    (HE : ∀ x y, prun P (Op.equal kt (K x) (K y)) = some (decide (x = y))) (hs : ∀ x, Instr.sameBits 10000 (K x) (K x) = true) : KeyOK P kt K := by
  have hu := prun_underlying ht
  refine ⟨hf, hc, fun x es l he => ?_, hs⟩
  unfold Instr.findKey
  rw [prun_bind, hu, Option.bind_some]
  cases es with
  | nil =>
    cases l with
    | nil => rfl
    | cons p l => simp at he
  | cons e es =>
    rw [findNow_struct]
    have := findAsking_at HE x (e :: es) l 0 he
    simpa only [Nat.zero_add] using this
end Go.Ev
