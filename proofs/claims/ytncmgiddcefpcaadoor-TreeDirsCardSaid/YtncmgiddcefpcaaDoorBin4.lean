/- Texts joined: what the claim needs of them. No condition. -/
import Derived.Lib.Split
import Derived.Lib.Join
import Derived.Lib.Bytealg
import GoSem.Op.String
import Derived.Test.YtncmgiddcefpcaaDoorEvM3
import Derived.Test.YtncmgiddcefpcaaDoorEvM2
namespace Go.Con
open Go
set_option linter.unusedSimpArgs false
set_option linter.unusedVariables false
theorem ba_ext {a b : ByteArray} (h : a.data.toList = b.data.toList) : a = b := by
  cases a; cases b; simp only [ByteArray.mk.injEq]; exact Array.toList_inj.1 h
def ofL (l : List UInt8) : ByteArray := ⟨l.toArray⟩
theorem ofL_of (s : ByteArray) : ofL s.data.toList = s := ba_ext rfl
theorem size_eq (s : ByteArray) : s.size = s.data.toList.length := (Array.length_toList (xs := s.data)).symm
def signB (b : UInt8) : Bool := decide (33 ≤ b.toNat) && decide (b.toNat ≤ 126) && !decide (b.toNat = 62)
def plainB (s : ByteArray) (most : Nat) : Bool := decide (1 ≤ s.size) && decide (s.size ≤ most) && s.data.toList.all signB
abbrev mayN (s : ByteArray) : Bool := plainB s 32
abbrev mayU (s : ByteArray) : Bool := plainB s 16
def cut : List UInt8 → List (List UInt8)
  | [] => [[]]
  | c :: l => if c = 62 then [] :: cut l else (c :: (cut l).headD []) :: (cut l).tail
theorem cut_cons (c : UInt8) (l : List UInt8) : cut (c :: l) = if c = 62 then [] :: cut l else (c :: (cut l).headD []) :: (cut l).tail := rfl
theorem cut_ne : ∀ l, cut l ≠ []
  | [] => by simp [cut]
  | c :: l => by unfold cut; split <;> simp
def split (s : ByteArray) : Option (List ByteArray) :=
  match s.data.toList with
  | [] => none
  | c :: l => if c = 62 then (if l = [] then some [] else if 168 < s.size then none else if 16 < (cut l).length then none
      else if ((cut l).map ofL).all mayN then some ((cut l).map ofL) else none) else none
def join (ps : List ByteArray) : ByteArray := ofL (62 :: [62].intercalate (ps.map (·.data.toList)))
theorem index_one (c : UInt8) : ∀ l : List UInt8, Lib.index (c :: l) [62] = if c = 62 then 0 else if Lib.index l [62] = -1 then -1 else Lib.index l [62] + 1 := by
  intro l
  have e : Lib.index (c :: l) [62] = if ([62] : List UInt8).isPrefixOf (c :: l) then 0 else if Lib.index l [62] == -1 then -1 else Lib.index l [62] + 1 := rfl
  rw [e]
  by_cases h : c = 62
  · subst h; simp
  · have : ([62] : List UInt8).isPrefixOf (c :: l) = false := by
      show ((62 : UInt8) == c && _) = false
      rw [show ((62 : UInt8) == c) = false from beq_false_of_ne (Ne.symm h)]; rfl
    rw [this, if_neg (by decide), if_neg h]; simp only [beq_iff_eq]
theorem cut_miss : ∀ l : List UInt8, Lib.index l [62] = -1 → cut l = [l]
  | [], _ => rfl
  | c :: l, h => by
    rw [index_one] at h
    by_cases hc : c = 62
    · rw [if_pos hc] at h; omega
    · rw [if_neg hc] at h
      have h2 : Lib.index l [62] = -1 := by
        by_cases e : Lib.index l [62] = -1
        · exact e
        · rw [if_neg e] at h
          have := Lib.index_ge l [62]
          omega
      rw [cut_cons, if_neg hc, cut_miss l h2]; rfl
theorem cut_hit : ∀ (l : List UInt8) (i : Nat), Lib.index l [62] = i → cut l = l.take i :: cut (l.drop (i + 1))
  | [], i, h => by simp [Lib.index] at h
  | c :: l, i, h => by
    rw [index_one] at h
    by_cases hc : c = 62
    · rw [if_pos hc] at h
      have : i = 0 := by omega
      subst this
      subst hc
      simp [cut]
    · rw [if_neg hc] at h
      by_cases e : Lib.index l [62] = -1
      · rw [if_pos e] at h; omega
      · rw [if_neg e] at h
        have := Lib.index_ge l [62]
        obtain ⟨j, rfl⟩ : ∃ j, i = j + 1 := ⟨i - 1, by omega⟩
        rw [cut_cons, if_neg hc, cut_hit l j (by omega)]; simp
theorem splitK_cut : ∀ (n : Nat) (l : List UInt8), Lib.count l [62] = n → Lib.splitK [62] 0 n l = cut l
  | 0, l, h => by
    unfold Lib.splitK
    refine (cut_miss l ?_).symm
    refine Decidable.byContradiction fun hn => ?_
    have hg := Lib.index_ge l [62]
    obtain ⟨i, hi⟩ : ∃ i : Nat, Lib.index l [62] = i := ⟨(Lib.index l [62]).toNat, by omega⟩
    rw [Lib.count_hit (by simp) hi] at h; omega
  | n + 1, l, h => by
    unfold Lib.splitK
    by_cases hm : Lib.index l [62] = -1
    · rw [if_pos (beq_iff_eq.2 hm), cut_miss l hm]
    · rw [if_neg (fun e => hm (beq_iff_eq.1 e))]
      have hg := Lib.index_ge l [62]
      obtain ⟨i, hi⟩ : ∃ i : Nat, Lib.index l [62] = i := ⟨(Lib.index l [62]).toNat, by omega⟩
      rw [Lib.count_hit (by simp) hi] at h
      have e : (Lib.index l [62]).toNat = i := by omega
      rw [cut_hit l i hi, e]
      simp only [Nat.add_zero, List.length_singleton]
      simp only [List.length_singleton] at h
      rw [splitK_cut n _ (by omega)]
theorem splitB_cut (s : ByteArray) : Lib.splitB (ofL [62]) 0 (Lib.countB s (ofL [62])) s = (cut s.data.toList).map ofL := by
  have h := Lib.splitB_data (ofL [62]) 0 (Lib.countB s (ofL [62])) s
  have h2 : Lib.splitK [62] 0 (Lib.countB s (ofL [62])) s.data.toList = cut s.data.toList := splitK_cut _ _ rfl
  rw [show (ofL [62]).data.toList = [62] from rfl, h2] at h
  rw [← h, List.map_map]
  have : (ofL ∘ fun x : ByteArray => x.data.toList) = id := by funext x; exact ofL_of x
  rw [this, List.map_id]
theorem may_no {s : ByteArray} {n : Nat} (h : plainB s n = true) : (62 : UInt8) ∉ s.data.toList := by
  intro hm
  unfold plainB at h
  simp only [Bool.and_eq_true, List.all_eq_true] at h
  have := h.2 _ hm
  simp [signB] at this
end Go.Con
namespace Go.Con
open Go
set_option linter.unusedSimpArgs false
set_option linter.unusedVariables false
structure Fl where
  r : Bool
  w : Bool
  e : Bool
  deriving DecidableEq
structure Bk where
  r1 : Int
  r2 : Int
  r3 : Int
  g : Int
  deriving DecidableEq
structure Tm where
  user : ByteArray
  f : Fl
  deriving DecidableEq
structure Bn where
  kind : Int
  uid : Int
  dir : Int
  link : ByteArray
  object : Bool
  acl : List Tm
  b : Bk
  deriving DecidableEq
def noFl : Fl := ⟨false, false, false⟩
def noBk : Bk := ⟨0, 0, 0, 0⟩
def noBn : Bn := ⟨0, 0, 0, ByteArray.empty, false, [], noBk⟩
def bkMay (b : Bk) : Bool := decide (0 ≤ b.r1) && decide (b.r1 ≤ b.r2) && decide (b.r2 ≤ b.r3) && decide (b.r3 ≤ 7) && decide (0 ≤ b.g) && decide (b.g ≤ 1024)
def star : ByteArray := ⟨#[42]⟩
def userT (s : ByteArray) : Bool := decide (s = star) || mayU s
def ltS (a b : ByteArray) : Bool := decide (a.data.toList < b.data.toList)
theorem cmp_lt : ∀ (x y : List UInt8), Lib.compareBytes x y < 0 ↔ x < y
  | [], [] => by simp [Lib.compareBytes]
  | [], b :: y => by simp [Lib.compareBytes]
  | a :: x, [] => by simp [Lib.compareBytes]
  | a :: x, b :: y => by
    have ih := cmp_lt x y
    unfold Lib.compareBytes
    rw [List.cons_lt_cons_iff]
    by_cases h : a < b
    · simp [h]
    · by_cases h2 : b < a
      · have : a ≠ b := by rintro rfl; exact h h2
        simp [h, h2, this]
      · have : a = b := UInt8.le_antisymm (UInt8.not_lt.1 h2) (UInt8.not_lt.1 h)
        subst this
        simp [ih]
theorem bless_lt : ∀ (x y : List UInt8), Op.bytesLess x y = decide (x < y)
  | [], [] => by simp [Op.bytesLess]
  | [], b :: y => by simp [Op.bytesLess]
  | a :: x, [] => by simp [Op.bytesLess]
  | a :: x, b :: y => by
    have ih := bless_lt x y
    unfold Op.bytesLess
    rw [ih, Bool.eq_iff_iff]
    simp [List.cons_lt_cons_iff]
theorem ltS_cmp (a b : ByteArray) : ltS a b = decide (Lib.compareBytes a.data.toList b.data.toList < 0) := by
  unfold ltS; rw [Bool.eq_iff_iff]; simp [cmp_lt]
theorem leS_not {a b : List UInt8} : (decide (a < b) || (a == b)) = !decide (b < a) := by
  rw [Bool.eq_iff_iff]
  simp only [Bool.or_eq_true, decide_eq_true_eq, beq_iff_eq, Bool.not_eq_true', decide_eq_false_iff_not, List.not_lt]
  constructor
  · rintro (h | rfl)
    · exact List.le_of_lt h
    · exact List.le_refl _
  · intro h
    by_cases e : a = b
    · exact .inr e
    · left
      refine Decidable.byContradiction fun hn => e (List.le_antisymm h (List.not_lt.1 hn))
def tmAt (l : List Tm) (i : Nat) : Tm := (l[i]?).getD ⟨ByteArray.empty, noFl⟩
def okAt (l : List Tm) (i : Nat) : Bool := userT (tmAt l i).user && (decide (i = 0) || ltS (tmAt l (i - 1)).user (tmAt l i).user)
def listMay (l : List Tm) : Bool := (List.range l.length).all (okAt l) && decide (l.length ≤ 16)
structure En where
  dir : Int
  id : Nat
  name : ByteArray
  deriving DecidableEq
def En.key (e : En) : Int × ByteArray := (e.dir, e.name)
def mLook {κ υ : Type} [DecidableEq κ] : List (κ × υ) → κ → Option υ
  | [], _ => none
  | (k, v) :: l, x => if k = x then some v else mLook l x
def mPut {κ υ : Type} [DecidableEq κ] : List (κ × υ) → κ → υ → List (κ × υ)
  | [], x, y => [(x, y)]
  | (k, v) :: l, x, y => if k = x then (x, y) :: l else (k, v) :: mPut l x y
def mDel {κ υ : Type} [DecidableEq κ] : List (κ × υ) → κ → List (κ × υ)
  | [], _ => []
  | (k, v) :: l, x => if k = x then l else (k, v) :: mDel l x
structure Hi where
  B : List Bn
  L : List En
  D : List Bool
def newHi : Hi := ⟨[], [], [true]⟩
namespace Hi
variable (T : Hi)
def is (d : Int) : Bool := decide (0 ≤ d) && (T.D[d.toNat]? == some true)
def br (i : Nat) : Bn := (T.B[i]?).getD noBn
def getF (k : Int × ByteArray) : Option Nat := (T.L.find? fun e => decide (e.key = k)).map (·.id)
abbrev get (d : Int) (n : ByteArray) : Option Nat := T.getF (d, n)
def isSeg (u : Int) (i : Nat) : Bool := decide ((T.br i).kind = 1) && decide ((T.br i).uid = u)
def seg (u : Int) : Option Nat := (T.L.find? fun e => T.isSeg u e.id).map (·.id)
def count (d : Int) : Nat := T.L.countP fun e => decide (e.dir = d)
def dirF (d : Int) : Option Int := if T.is d = true then some (T.count d : Int) else none
def many (i : Nat) : Nat := T.L.countP fun e => decide (e.id = i)
def cleanE (b : Bn) : Int :=
  if b.kind = 1 then (if b.uid < 1 ∨ listMay b.acl = false ∨ bkMay b.b = false then 1 else if (T.seg b.uid).isSome then 5 else 0)
  else if b.kind = 2 then 0
  else if b.kind = 3 then (if (split b.link).isSome then 0 else 3)
  else 15
def clean (b : Bn) : Bn :=
  if b.kind = 1 then ⟨1, b.uid, 0, ByteArray.empty, b.object, b.acl, b.b⟩
  else if b.kind = 2 then ⟨2, 0, T.D.length, ByteArray.empty, false, [], noBk⟩
  else ⟨3, 0, 0, b.link, false, [], noBk⟩
def why (d : Int) (n : ByteArray) (b : Bn) : Int :=
  if T.is d = false then 4 else if mayN n = false then 3 else if (T.get d n).isSome then 5 else T.cleanE b
def added (d : Int) (n : ByteArray) (b : Bn) : Hi := ⟨T.B ++ [T.clean b], T.L ++ [⟨d, T.B.length, n⟩], if b.kind = 2 then T.D ++ [true] else T.D⟩
def add (d : Int) (n : ByteArray) (b : Bn) : Hi × Int × Int :=
  if T.why d n b = 0 then (T.added d n b, (T.clean b).dir, 0) else (T, 0, T.why d n b)
def look (d : Int) (n : ByteArray) : Option Bn := (T.get d n).map T.br
def named (d : Int) (m : ByteArray) (i : Nat) : Hi := { T with L := T.L ++ [⟨d, i, m⟩] }
def name (d : Int) (n m : ByteArray) : Hi × Int :=
  match T.get d n with
  | none => (T, 4)
  | some i => if mayN m = false then (T, 3) else if (T.get d m).isSome then (T, 5) else (T.named d m i, 0)
def taken (d : Int) (n : ByteArray) : Hi := { T with L := T.L.filter fun e => !decide (e.key = (d, n)) }
def unname (d : Int) (n : ByteArray) : Hi × Int :=
  match T.get d n with
  | none => (T, 4)
  | some i => if T.many i = 1 then (T, 16) else (T.taken d n, 0)
def gone (i : Nat) : Hi := { T with L := T.L.filter (fun e => !decide (e.id = i)), D := if (T.br i).kind = 2 then T.D.set (T.br i).dir.toNat false else T.D }
def delete (d : Int) (n : ByteArray) : Hi × Bn × Int :=
  match T.get d n with
  | none => (T, noBn, 4)
  | some i => if (T.br i).kind = 2 ∧ 0 < T.count (T.br i).dir then (T, noBn, 16) else (T.gone i, T.br i, 0)
def setB (i : Nat) (b : Bn) : Hi := { T with B := T.B.set i b }
def access (d : Int) (n : ByteArray) (l : List Tm) : Hi × Int :=
  match T.get d n with
  | none => (T, 4)
  | some i => if (T.br i).kind ≠ 1 then (T, 15) else if listMay l = false then (T, 1) else (T.setB i { T.br i with acl := l }, 0)
def ringed (d : Int) (n : ByteArray) (b : Bk) : Hi × Int :=
  match T.get d n with
  | none => (T, 4)
  | some i => if (T.br i).kind ≠ 1 then (T, 15) else if bkMay b = false then (T, 1) else (T.setB i { T.br i with b := b }, 0)
def namesOf (d : Int) : List ByteArray := (T.L.filter fun e => decide (e.dir = d)).map (·.name)
structure Ok : Prop where
  ids : ∀ e ∈ T.L, e.id < T.B.length
  keys : (T.L.map En.key).Nodup
  dirs : ∀ e ∈ T.L, T.is e.dir = true
  homes : ∀ a ∈ T.L, ∀ b ∈ T.L, a.id = b.id → a.dir = b.dir
  uids : ∀ a ∈ T.L, ∀ b ∈ T.L, (T.br a.id).kind = 1 → (T.br b.id).kind = 1 → (T.br a.id).uid = (T.br b.id).uid → a.id = b.id
  subs : ∀ e ∈ T.L, (T.br e.id).kind = 2 → 0 < (T.br e.id).dir ∧ (T.br e.id).dir < T.D.length
  few : T.D.length ≤ T.B.length + 1
  root : T.is 0 = true
end Hi
end Go.Con
namespace Go.Ev
open Go Go.Con
set_option linter.unusedSimpArgs false
set_option linter.unusedVariables false
theorem map_eraseIdx' {α β : Type} (f : α → β) : ∀ (l : List α) (i : Nat), (l.eraseIdx i).map f = (l.map f).eraseIdx i
  | [], _ => rfl
  | _ :: _, 0 => rfl
  | a :: l, i + 1 => by simp [map_eraseIdx' f l i]
structure KeyOK {κ : Type} [DecidableEq κ] (P : Program) (kt : TypeId) (K : κ → Value) : Prop where
  flat : ∀ x, flat (K x) = true
  chk : ∀ b x, prun P (Instr.checkKey b 10000 kt (K x)) = some ()
  find : ∀ (x : κ) (es : List MapEntry) (l : List (κ × Value)), es.map (fun e => (e.key, e.val)) = l.map (fun p => (K p.1, p.2)) → prun P (Instr.findKey kt (K x) es) = some ((l.findIdx? (fun p => decide (p.1 = x))).bind fun i => (l[i]?).map fun p => (i, p.2))
  same : ∀ x, Instr.sameBits 10000 (K x) (K x) = true
def BornOK (es : List MapEntry) (c : Nat) : Prop := (es.map (·.born)).Nodup ∧ ∀ e ∈ es, e.born < c
theorem BornOK.nil (c : Nat) : BornOK [] c := ⟨by simp, by simp⟩
theorem BornOK.add {es : List MapEntry} {c : Nat} (b : BornOK es c) (k v : Value) : BornOK (es ++ [⟨k, v, c⟩]) (c + 1) := by
  refine ⟨?_, fun e he => ?_⟩
  · rw [List.map_append, List.nodup_append]
    refine ⟨b.1, by simp, fun x hx y hy => ?_⟩
    simp only [List.map_cons, List.map_nil, List.mem_singleton] at hy
    simp only [List.mem_map] at hx
    obtain ⟨e, he, rfl⟩ := hx
    have := b.2 e he
    omega
  · rcases List.mem_append.1 he with h | h
    · have := b.2 e h; omega
    · simp at h; subst h; simp
theorem BornOK.set {es : List MapEntry} {c : Nat} (b : BornOK es c) {i : Nat} {e : MapEntry} (hi : es[i]? = some e) (k v : Value) : BornOK (es.set i { e with key := k, val := v }) c := by
  refine ⟨?_, fun x hx => ?_⟩
  · rw [List.map_set]
    have : (es.map (·.born)).set i e.born = es.map (·.born) := by
      apply List.ext_getElem?
      intro j
      by_cases hj : i = j
      · subst hj
        have hlt : i < es.length := (List.getElem?_eq_some_iff.1 hi).1
        rw [List.getElem?_set_self (by simpa using hlt), List.getElem?_map, hi]; rfl
      · rw [List.getElem?_set_ne hj]
    rw [this]; exact b.1
  · rcases List.mem_or_eq_of_mem_set hx with h | h
    · exact b.2 x h
    · subst h; exact b.2 e (List.mem_of_getElem? hi)
theorem BornOK.erase {es : List MapEntry} {c : Nat} (b : BornOK es c) (i : Nat) : BornOK (es.eraseIdx i) c := by
  refine ⟨?_, fun e he => b.2 e (List.mem_of_mem_eraseIdx he)⟩
  rw [map_eraseIdx']
  exact (List.eraseIdx_sublist _ _).nodup b.1
def MapAt {κ υ : Type} (K : κ → Value) (V : υ → Value) (h : Hp) (b : Nat) (l : List (κ × υ)) : Prop := ∃ es c, h.get b = some (.map es c) ∧ es.map (fun e => (e.key, e.val)) = (l.map fun p => (K p.1, V p.2)) ∧ BornOK es c ∧ (l.map (·.1)).Nodup
theorem MapAt.eq {κ υ : Type} {K : κ → Value} {V : υ → Value} {h h' : Hp} {b : Nat} {l : List (κ × υ)} (m : MapAt K V h b l) (e : h'.get b = h.get b) : MapAt K V h' b l := by
  obtain ⟨es, c, h1, h2⟩ := m; exact ⟨es, c, by rw [e]; exact h1, h2⟩
section
variable {κ υ : Type} [DecidableEq κ]
theorem look_find (l : List (κ × υ)) (x : κ) : mLook l x = ((l.findIdx? (fun p => decide (p.1 = x))).bind fun i => (l[i]?).map fun p => p.2) := by
  induction l with
  | nil => rfl
  | cons a l ih =>
    obtain ⟨k, v⟩ := a
    rw [mLook, List.findIdx?_cons]
    by_cases hk : k = x
    · simp [hk]
    · simp only [hk, if_false, decide_false, Bool.false_eq_true, ih]
      cases h : l.findIdx? (fun p => decide (p.1 = x)) with
      | none => simp
      | some i => simp
theorem findIdx_map (V : υ → Value) (l : List (κ × υ)) (x : κ) : (l.map fun p => (p.1, V p.2)).findIdx? (fun p => decide (p.1 = x)) = l.findIdx? (fun p => decide (p.1 = x)) := by
  rw [List.findIdx?_map]; rfl
theorem put_find (l : List (κ × υ)) (x : κ) (y : υ) : mPut l x y = match l.findIdx? (fun p => decide (p.1 = x)) with
    | some i => l.set i (x, y)
    | none => l ++ [(x, y)] := by
  induction l with
  | nil => rfl
  | cons a l ih =>
    obtain ⟨k, v⟩ := a
    rw [mPut, List.findIdx?_cons]
    by_cases hk : k = x
    · simp [hk]
    · simp only [hk, if_false, decide_false, Bool.false_eq_true, ih]
      cases h : l.findIdx? (fun p => decide (p.1 = x)) with
      | none => simp
      | some i => simp
theorem del_find (l : List (κ × υ)) (x : κ) : mDel l x = match l.findIdx? (fun p => decide (p.1 = x)) with
    | some i => l.eraseIdx i
    | none => l := by
  induction l with
  | nil => rfl
  | cons a l ih =>
    obtain ⟨k, v⟩ := a
    rw [mDel, List.findIdx?_cons]
    by_cases hk : k = x
    · simp [hk]
    · simp only [hk, if_false, decide_false, Bool.false_eq_true, ih]
      cases h : l.findIdx? (fun p => decide (p.1 = x)) with
      | none => simp
      | some i => simp
end
section
variable {κ υ : Type} [DecidableEq κ] {P : Program} {t kt et : TypeId} {K : κ → Value} {V : υ → Value} {h : Hp} {b : Nat} {l : List (κ × υ)}
theorem find_at (ok : KeyOK P kt K) {es : List MapEntry} (he : es.map (fun e => (e.key, e.val)) = l.map fun p => (K p.1, V p.2)) (x : κ) :
    prun P (Instr.findKey kt (K x) es) = some ((l.findIdx? (fun p => decide (p.1 = x))).bind fun i => (l[i]?).map fun p => (i, V p.2)) := by
  rw [ok.find x es (l.map fun p => (p.1, V p.2)) (by rw [he, List.map_map]; rfl), findIdx_map]
  congr 1
  congr 1
  funext i
  rw [List.getElem?_map]
  cases l[i]? <;> rfl
theorem lookup_at (ht : tMap P t = some (kt, et)) (ok : KeyOK P kt K) (m : MapAt K V h b l) {z : Value} (hz : tZero P et = some z) (hf : flat z = true) (x : κ) (f : Bool) :
    evLookup P t (.map (some b)) (K x) f h = some (match mLook l x with
      | some v => bif f then .tuple #[V v, .bool true] else V v
      | none => bif f then .tuple #[z, .bool false] else z) := by
  obtain ⟨es, c, hg, he, _⟩ := m
  unfold evLookup
  simp only [ht, Option.bind_some, ok.flat, Bool.not_true, cond_false, mapOf, hg]
  have : prun P (do Instr.checkKey es.isEmpty 10000 kt (K x); Instr.findKey kt (K x) es) = prun P (Instr.findKey kt (K x) es) := by
    rw [prun_bind, ok.chk, Option.bind_some]
  rw [this, find_at ok he, look_find]
  cases hi : l.findIdx? (fun p => decide (p.1 = x)) with
  | none => simp [hz, hf]
  | some i =>
    have hlt : i < l.length := List.findIdx?_eq_some_iff_getElem.1 hi |>.1
    simp [List.getElem?_eq_getElem hlt]
omit [DecidableEq κ] in
theorem keys_set {l : List (κ × υ)} {i : Nat} {x : κ} {y : υ} (h : (l.map (·.1)).Nodup) (hi : l[i]?.map (·.1) = some x) : ((l.set i (x, y)).map (·.1)).Nodup := by
  rw [List.map_set]
  have : (l.map (·.1)).set i x = l.map (·.1) := by
    apply List.ext_getElem?
    intro j
    by_cases hj : i = j
    · subst hj
      rcases hh : l[i]? with _ | p
      · rw [hh] at hi; cases hi
      · have hlt : i < l.length := (List.getElem?_eq_some_iff.1 hh).1
        rw [List.getElem?_set_self (by simpa using hlt), List.getElem?_map, hi]
    · rw [List.getElem?_set_ne hj]
  rw [this]; exact h
theorem update_at (ht : tMap P t = some (kt, et)) (ok : KeyOK P kt K) (m : MapAt K V h b l) (x : κ) (y : υ) :
    ∃ h', evMapUpdate P t (.map (some b)) (K x) (V y) h = some h' ∧ MapAt K V h' b (mPut l x y) ∧ h'.next = h.next ∧ ∀ c, c ≠ b → h'.get c = h.get c := by
  obtain ⟨es, c, hg, he, hb, hn⟩ := m
  unfold evMapUpdate
  simp only [ht, hg, ok.flat, Bool.not_true, cond_false]
  have : prun P (do Instr.checkKey false 10000 kt (K x); Instr.findKey kt (K x) es) = prun P (Instr.findKey kt (K x) es) := by
    rw [prun_bind, ok.chk, Option.bind_some]
  rw [this, find_at ok he, put_find]
  cases hi : l.findIdx? (fun p => decide (p.1 = x)) with
  | none =>
    refine ⟨h.set b (.map (es ++ [⟨K x, V y, c⟩]) (c + 1)), by simp, ⟨_, _, Hp.get_set_self _ _ _, by simp [he], hb.add _ _, ?_⟩, rfl, fun k hk => Hp.get_set_ne hk⟩
    rw [List.map_append, List.nodup_append]
    refine ⟨hn, by simp, fun a ha b' hb' => ?_⟩
    simp only [List.map_cons, List.map_nil, List.mem_singleton] at hb'
    subst hb'
    simp only [List.mem_map] at ha
    obtain ⟨p, hp, rfl⟩ := ha
    have := (List.findIdx?_eq_none_iff.1 hi) p hp
    simpa using this
  | some i =>
    obtain ⟨hlt, h1, _⟩ := List.findIdx?_eq_some_iff_getElem.1 hi
    have hl : es.length = l.length := by have := congrArg List.length he; simpa using this
    have hei : es[i]? = some es[i] := List.getElem?_eq_getElem (by omega)
    have hkey : (es[i]'(by omega)).key = K x := by
      have h2 : (es.map fun e => (e.key, e.val))[i]? = (l.map fun p => (K p.1, V p.2))[i]? := by rw [he]
      rw [List.getElem?_map, List.getElem?_map, hei, List.getElem?_eq_getElem hlt] at h2
      simp only [Option.map_some, Option.some.injEq, Prod.mk.injEq] at h2
      rw [h2.1]
      have := of_decide_eq_true h1
      rw [this]
    refine ⟨h.set b (.map (es.set i { es[i]'(by omega) with key := K x, val := V y }) c), ?_, ⟨_, _, Hp.get_set_self _ _ _, ?_, hb.set hei _ _, ?_⟩, rfl, fun k hk => Hp.get_set_ne hk⟩
    · simp only [Option.bind_some, List.getElem?_eq_getElem hlt, Option.map_some, hei, hkey, ok.same, cond_true]
    · rw [List.map_set, he, List.map_set]
    · refine keys_set hn ?_
      rw [List.getElem?_eq_getElem hlt]
      exact congrArg some (of_decide_eq_true h1)
theorem delete_at (ht : tMap P t = some (kt, et)) (ok : KeyOK P kt K) (m : MapAt K V h b l) (x : κ) :
    ∃ h', evDelete P t (.map (some b)) (K x) h = some h' ∧ MapAt K V h' b (mDel l x) ∧ h'.next = h.next ∧ ∀ c, c ≠ b → h'.get c = h.get c := by
  have m0 := m
  obtain ⟨es, c, hg, he, hb, hn⟩ := m
  unfold evDelete
  simp only [ht, hg, ok.flat, Bool.not_true, cond_false]
  have : prun P (do Instr.checkKey es.isEmpty 10000 kt (K x); Instr.findKey kt (K x) es) = prun P (Instr.findKey kt (K x) es) := by
    rw [prun_bind, ok.chk, Option.bind_some]
  rw [this, find_at ok he, del_find]
  cases hi : l.findIdx? (fun p => decide (p.1 = x)) with
  | none => exact ⟨h, by simp, m0, rfl, fun _ _ => rfl⟩
  | some i =>
    obtain ⟨hlt, h1, _⟩ := List.findIdx?_eq_some_iff_getElem.1 hi
    refine ⟨h.set b (.map (es.eraseIdx i) c), ?_, ⟨es.eraseIdx i, c, Hp.get_set_self _ _ _, ?_, hb.erase i, ?_⟩, rfl, fun k hk => Hp.get_set_ne hk⟩
    · simp [List.getElem?_eq_getElem hlt]
    · rw [map_eraseIdx', he, map_eraseIdx']
    · rw [map_eraseIdx']; exact (List.eraseIdx_sublist _ _).nodup hn
omit [DecidableEq κ] in
theorem len_at (m : MapAt K V h b l) : mapLen h (.map (some b)) = some (.int .i64 l.length) := by
  obtain ⟨es, c, hg, he, _⟩ := m
  have hl : es.length = l.length := by have := congrArg List.length he; simpa using this
  unfold mapLen mapOf
  simp only [hg, Option.map_some, hl]
end
section
variable {κ υ : Type} [DecidableEq κ]
def upd (f : κ → Option υ) (x : κ) (y : Option υ) : κ → Option υ := fun z => if z = x then y else f z
theorem upd_self (f : κ → Option υ) (x : κ) (y : Option υ) : upd f x y x = y := if_pos rfl
theorem upd_ne (f : κ → Option υ) {x z : κ} (y : Option υ) (h : z ≠ x) : upd f x y z = f z := if_neg h
theorem look_put (x : κ) (y : υ) : ∀ (l : List (κ × υ)) (z : κ), mLook (mPut l x y) z = if z = x then some y else mLook l z
  | [], z => by
    simp only [mPut, mLook]
    by_cases h : x = z
    · simp [h]
    · simp [h, Ne.symm h]
  | (k, v) :: l, z => by
    unfold mPut
    by_cases hk : k = x
    · subst hk
      simp only [if_true, mLook]
      by_cases h : k = z
      · simp [h]
      · simp [h, Ne.symm h]
    · simp only [hk, if_false, mLook]
      by_cases h : k = z
      · subst h; simp [hk]
      · simp only [h, if_false]; exact look_put x y l z
theorem look_none {l : List (κ × υ)} {z : κ} (h : z ∉ l.map (·.1)) : mLook l z = none := by
  induction l with
  | nil => rfl
  | cons p l ih =>
    obtain ⟨k, v⟩ := p
    simp only [List.map_cons, List.mem_cons, not_or] at h
    simp only [mLook, Ne.symm h.1, if_false]
    exact ih h.2
theorem look_del (x : κ) : ∀ (l : List (κ × υ)), (l.map (·.1)).Nodup → ∀ z, mLook (mDel l x) z = if z = x then none else mLook l z
  | [], _, z => by simp [mDel, mLook]
  | (k, v) :: l, hn, z => by
    simp only [List.map_cons, List.nodup_cons] at hn
    unfold mDel
    by_cases hk : k = x
    · subst hk
      simp only [if_true, mLook]
      by_cases h : z = k
      · subst h; simp [look_none hn.1]
      · simp [h, Ne.symm h]
    · simp only [hk, if_false, mLook]
      by_cases h : k = z
      · subst h; simp [hk]
      · simp only [h, if_false]; exact look_del x l hn.2 z
def MapIs (K : κ → Value) (V : υ → Value) (h : Hp) (b : Nat) (f : κ → Option υ) : Prop := ∃ l, MapAt K V h b l ∧ ∀ x, mLook l x = f x
variable {P : Program} {t kt et : TypeId} {K : κ → Value} {V : υ → Value} {h h' : Hp} {b : Nat} {f : κ → Option υ}
theorem MapIs.eq (m : MapIs K V h b f) (e : h'.get b = h.get b) : MapIs K V h' b f := by
  obtain ⟨l, h1, h2⟩ := m; exact ⟨l, h1.eq e, h2⟩
theorem MapIs.get (m : MapIs K V h b f) : ∃ es c, h.get b = some (.map es c) := by
  obtain ⟨l, ⟨es, c, h1, _⟩, _⟩ := m; exact ⟨es, c, h1⟩
theorem MapIs.new (h : Hp) (K : κ → Value) (V : υ → Value) : MapIs K V (h.push (.map [] 0)) h.next (fun _ => none) :=
  ⟨[], ⟨[], 0, Hp.get_push_self _ _, rfl, .nil _, by simp⟩, fun _ => rfl⟩
theorem MapIs.look (m : MapIs K V h b f) (ht : tMap P t = some (kt, et)) (ok : KeyOK P kt K) {z : Value} (hz : tZero P et = some z) (hf : flat z = true) (x : κ) (fl : Bool) :
    evLookup P t (.map (some b)) (K x) fl h = some (match f x with
      | some v => bif fl then .tuple #[V v, .bool true] else V v
      | none => bif fl then .tuple #[z, .bool false] else z) := by
  obtain ⟨l, h1, h2⟩ := m
  rw [lookup_at ht ok h1 hz hf, h2]
theorem MapIs.put (m : MapIs K V h b f) (ht : tMap P t = some (kt, et)) (ok : KeyOK P kt K) (x : κ) (y : υ) :
    ∃ h', evMapUpdate P t (.map (some b)) (K x) (V y) h = some h' ∧ MapIs K V h' b (upd f x (some y)) ∧ h'.next = h.next ∧ ∀ c, c ≠ b → h'.get c = h.get c := by
  obtain ⟨l, h1, h2⟩ := m
  obtain ⟨h', e1, e2, e3, e4⟩ := update_at ht ok h1 x y
  refine ⟨h', e1, ⟨_, e2, fun z => ?_⟩, e3, e4⟩
  rw [look_put, h2]; rfl
theorem MapIs.del (m : MapIs K V h b f) (ht : tMap P t = some (kt, et)) (ok : KeyOK P kt K) (x : κ) :
    ∃ h', evDelete P t (.map (some b)) (K x) h = some h' ∧ MapIs K V h' b (upd f x none) ∧ h'.next = h.next ∧ ∀ c, c ≠ b → h'.get c = h.get c := by
  obtain ⟨l, h1, h2⟩ := m
  obtain ⟨h', e1, e2, e3, e4⟩ := delete_at ht ok h1 x
  refine ⟨h', e1, ⟨_, e2, fun z => ?_⟩, e3, e4⟩
  obtain ⟨_, _, _, _, _, hn⟩ := h1
  rw [look_del x l hn, h2]; rfl
end
def keyI (n : Int) : Value := .int .i64 n
theorem findNow_int (k : IntKind) (x : Int) : ∀ (es : List MapEntry) (l : List (Int × Value)) (i : Nat), es.map (fun e => (e.key, e.val)) = l.map (fun p => (keyI p.1, p.2)) →
    Instr.findNow (.int k) (keyI x) es i = some ((l.findIdx? (fun p => decide (p.1 = x))).bind fun j => (l[j]?).map fun p => (i + j, p.2))
  | [], [], i, _ => rfl
  | [], _ :: _, i, h => by simp at h
  | _ :: _, [], i, h => by simp at h
  | e :: es, p :: l, i, h => by
    simp only [List.map_cons, List.cons.injEq, Prod.mk.injEq] at h
    obtain ⟨⟨h1, h2⟩, h3⟩ := h
    have ih := findNow_int k x es l (i + 1) h3
    unfold Instr.findNow
    have hs : Instr.sameNow (.int k) (keyI x) e.key = some (x == p.1) := by rw [h1]; simp [Instr.sameNow, keyI]
    rw [hs, List.findIdx?_cons]
    by_cases hk : p.1 = x
    · have : (x == p.1) = true := by simp [hk]
      rw [this]; simp [hk, h2]
    · have : (x == p.1) = false := by simp; exact fun e => hk e.symm
      rw [this]
      simp only [ih, hk, decide_false, Bool.false_eq_true, if_false]
      cases hf : l.findIdx? (fun p => decide (p.1 = x)) with
      | none => simp
      | some j => simp only [Option.bind_some, Option.map_some, List.getElem?_cons_succ]; rw [show i + 1 + j = i + (j + 1) by omega]
theorem prun_underlying {P : Program} {t : TypeId} {d : TypeDesc} (ht : P.underlying t = some d) : prun P (Go.underlying t) = some d := by
  unfold Go.underlying
  rw [prun_bind]
  have : prun P Go.program = some P := rfl
  rw [this, Option.bind_some, ht]
  rfl
theorem keyI_ok {P : Program} {kt : TypeId} (ht : P.underlying kt = some (.int .i64)) : KeyOK P kt keyI := by
  have hu := prun_underlying ht
  refine ⟨fun x => rfl, fun b x => ?_, fun x es l he => ?_, fun x => ?_⟩
  · unfold Instr.checkKey
    rw [prun_bind, hu, Option.bind_some]
    rfl
  · unfold Instr.findKey
    rw [prun_bind, hu, Option.bind_some, findNow_int .i64 x es l 0 he]
    simp only [Nat.zero_add]
    rfl
  · simp [Instr.sameBits, keyI]
theorem findNow_struct (fs : Array Field) (k : Value) (e : MapEntry) (es : List MapEntry) (i : Nat) : Instr.findNow (.struct fs) k (e :: es) i = none := by
  unfold Instr.findNow; rfl
theorem findAsking_at {κ : Type} [DecidableEq κ] {P : Program} {kt : TypeId} {K : κ → Value} (HE : ∀ x y, prun P (Op.equal kt (K x) (K y)) = some (decide (x = y))) (x : κ) :
    ∀ (es : List MapEntry) (l : List (κ × Value)) (i : Nat), es.map (fun e => (e.key, e.val)) = l.map (fun p => (K p.1, p.2)) →
    prun P (Instr.findAsking kt (K x) es i) = some ((l.findIdx? (fun p => decide (p.1 = x))).bind fun j => (l[j]?).map fun p => (i + j, p.2))
  | [], [], i, _ => rfl
  | [], _ :: _, i, h => by simp at h
  | _ :: _, [], i, h => by simp at h
  | e :: es, p :: l, i, h => by
    simp only [List.map_cons, List.cons.injEq, Prod.mk.injEq] at h
    obtain ⟨⟨h1, h2⟩, h3⟩ := h
    have ih := findAsking_at HE x es l (i + 1) h3
    unfold Instr.findAsking
    rw [prun_bind, h1, HE, Option.bind_some, List.findIdx?_cons]
    by_cases hk : p.1 = x
    · have : x = p.1 := hk.symm
      simp only [this, decide_true, if_true, h2]
      simp; rfl
    · have : ¬ x = p.1 := fun e => hk e.symm
      simp only [this, decide_false, Bool.false_eq_true, if_false, ih, hk]
      cases hf : l.findIdx? (fun p => decide (p.1 = x)) with
      | none => simp
      | some j => simp only [Option.bind_some, Option.map_some, List.getElem?_cons_succ]; rw [show i + 1 + j = i + (j + 1) by omega]
theorem keyStruct_ok {κ : Type} [DecidableEq κ] {P : Program} {kt : TypeId} {K : κ → Value} {fs : Array Field} (ht : P.underlying kt = some (.struct fs)) (hf : ∀ x, flat (K x) = true) (hc : ∀ b x, prun P (Instr.checkKey b 10000 kt (K x)) = some ())
    (HE : ∀ x y, prun P (Op.equal kt (K x) (K y)) = some (decide (x = y))) (hs : ∀ x, Instr.sameBits 10000 (K x) (K x) = true) : KeyOK P kt K := by
  have hu := prun_underlying ht
  refine ⟨hf, hc, fun x es l he => ?_, hs⟩
  unfold Instr.findKey
  rw [prun_bind, hu, Option.bind_some]
  cases es with
  | nil =>
    cases l with
    | nil => rfl
    | cons p l => simp at he
  | cons e es =>
    rw [findNow_struct]
    have := findAsking_at HE x (e :: es) l 0 he
    simpa only [Nat.zero_add] using this
end Go.Ev
namespace Go.Ev
open Go
set_option linter.unusedSimpArgs false
set_option linter.unusedVariables false
theorem row_push {h : Hp} {o : Ob} {c : Nat} : rowOf (h.push o) c = if c = h.next then rowOb (some o) else rowOf h c := by
  rw [rowOf_def, Hp.get_push]; split <;> rfl
theorem row_set {h : Hp} {o : Ob} {b c : Nat} : rowOf (h.set b o) c = if c = b then rowOb (some o) else rowOf h c := by
  rw [rowOf_def, Hp.get_set]; split <;> rfl
theorem wrOb_0 {h : Hp} {b o : Nat} {vs cs : List Value} {e : TypeId} : wrOb h b o vs (some (.row cs e (.rw 0 []))) = bif decide (o + vs.length ≤ cs.length) && vs.all isCell then some (h.set b (.row (splice cs o vs) e (.rw 0 []))) else none := by
  simp only [wrOb, Nat.zero_le, decide_true, cond_true]
theorem splice_eq {cs vs : List Value} {o : Nat} : splice cs o vs = cs.take o ++ vs ++ cs.drop (o + vs.length) := rfl
theorem aggAt_def {o n : Nat} {cs : List Value} : aggAt o n cs = bif decide (o + n ≤ cs.length) then some (.agg ((cs.drop o).take n).toArray) else none := rfl
theorem evh : type_of% @row_push ∧ type_of% @row_set ∧ type_of% @Hp.get_push ∧ type_of% @Hp.get_set ∧ type_of% @Hp.next_push ∧ type_of% @Hp.next_set ∧ type_of% @writeAt_def ∧ type_of% @wrOb_0 ∧ type_of% @splice_eq ∧ type_of% @aggAt_def ∧ type_of% @cells_agg ∧ type_of% @cells_bool ∧ type_of% @cells_int ∧ type_of% @cells_string ∧ type_of% @cells_pointer ∧ type_of% @cells_slice ∧ type_of% @cells_map ∧
    type_of% @isCell_bool ∧ type_of% @isCell_int ∧ type_of% @isCell_string ∧ type_of% @isCell_pointer ∧ type_of% @isCell_slice ∧ type_of% @isCell_map :=
  ⟨@row_push, @row_set, @Hp.get_push, @Hp.get_set, @Hp.next_push, @Hp.next_set, @writeAt_def, @wrOb_0, @splice_eq, @aggAt_def, @cells_agg, @cells_bool, @cells_int, @cells_string, @cells_pointer, @cells_slice, @cells_map, @isCell_bool, @isCell_int, @isCell_string, @isCell_pointer, @isCell_slice, @isCell_map⟩
end Go.Ev
namespace Go.Ev
open Go
set_option linter.unusedSimpArgs false
set_option linter.unusedVariables false
def Chg (F : Nat → Prop) (h h' : Hp) : Prop := h.next ≤ h'.next ∧ ∀ b, b < h.next → ¬ F b → h'.get b = h.get b
theorem Chg.refl (F : Nat → Prop) (h : Hp) : Chg F h h := ⟨Nat.le_refl _, fun _ _ _ => rfl⟩
theorem Chg.trans {F G : Nat → Prop} {a b c : Hp} (x : Chg F a b) (y : Chg G b c) (s : ∀ k, G k → F k ∨ a.next ≤ k) : Chg F a c :=
  ⟨Nat.le_trans x.1 y.1, fun k hk hf => (y.2 k (Nat.lt_of_lt_of_le hk x.1) fun hg => (s k hg).elim hf (by omega)).trans (x.2 k hk hf)⟩
theorem Chg.mono {F G : Nat → Prop} {a b : Hp} (x : Chg F a b) (s : ∀ k, F k → G k) : Chg G a b := ⟨x.1, fun k hk hf => x.2 k hk fun h => hf (s k h)⟩
theorem Chg.keep {a b : Hp} (x : Chg (fun _ => False) a b) : Keep a b := ⟨x.1, fun k hk => x.2 k hk id⟩
theorem Chg.set {F : Nat → Prop} {a b : Hp} (x : Chg F a b) {c : Nat} {o : Ob} (hc : F c ∨ a.next ≤ c) : Chg F a (b.set c o) :=
  ⟨x.1, fun k hk hf => by rw [Hp.get_set_ne (by rintro rfl; exact hc.elim hf (by omega))]; exact x.2 k hk hf⟩
theorem Chg.push {F : Nat → Prop} {a b : Hp} (x : Chg F a b) (o : Ob) : Chg F a (b.push o) :=
  ⟨Nat.le_succ_of_le x.1, fun k hk hf => by rw [Hp.get_push_lt (Nat.lt_of_lt_of_le hk x.1)]; exact x.2 k hk hf⟩
theorem Chg.one {F : Nat → Prop} {a b c : Hp} {k : Nat} (x : Chg F a b) (hn : c.next = b.next) (hs : ∀ j, j ≠ k → c.get j = b.get j) (hk : F k ∨ a.next ≤ k) : Chg F a c :=
  ⟨by rw [hn]; exact x.1, fun j hj hf => by rw [hs j (by rintro rfl; exact hk.elim hf (by omega))]; exact x.2 j hj hf⟩
def Same (e : TypeId) (h h' : Hp) : Prop := h.next ≤ h'.next ∧ ∀ b cs st, b < h.next → h.get b = some (.row cs e st) → h'.get b = some (.row cs e st)
theorem Same.refl (e : TypeId) (h : Hp) : Same e h h := ⟨Nat.le_refl _, fun _ _ _ _ g => g⟩
theorem Same.trans {e : TypeId} {a b c : Hp} (x : Same e a b) (y : Same e b c) : Same e a c := ⟨Nat.le_trans x.1 y.1, fun k cs st hk g => y.2 k cs st (Nat.lt_of_lt_of_le hk x.1) (x.2 k cs st hk g)⟩
def noRow (e : TypeId) : Option Ob → Prop
  | some (.row _ e' _) => e' ≠ e
  | _ => True
theorem Same.set {e : TypeId} {h : Hp} {b : Nat} {o : Ob} (n : noRow e (h.get b)) : Same e h (h.set b o) := ⟨Nat.le_refl _, fun c cs st _ g => by
  rw [Hp.get_set_ne (by rintro rfl; rw [g] at n; exact n rfl)]; exact g⟩
theorem Same.one {e : TypeId} {h h' : Hp} {b : Nat} (n : noRow e (h.get b)) (hn : h.next ≤ h'.next) (hs : ∀ j, j < h.next → j ≠ b → h'.get j = h.get j) : Same e h h' := ⟨hn, fun c cs st hc g => by
  rw [hs c hc (by rintro rfl; rw [g] at n; exact n rfl)]; exact g⟩
theorem Same.keep {e : TypeId} {h h' : Hp} (k : Keep h h') : Same e h h' := ⟨k.1, fun c cs st hc g => by rw [k.2 c hc]; exact g⟩
def SlTy (h : Hp) (F : Nat → Prop) (e n : Nat) (v : Value) (cs : List Value) : Prop :=
  (v = .slice none 0 0 ∧ cs = []) ∨ ∃ b o k c all st, v = .slice (some ⟨b, o, none⟩) k c ∧ k ≤ c / 2 ∧ F b ∧ b < h.next ∧ h.get b = some (.row all e st) ∧ notDead st ∧ cs.length = k * n ∧ (all.drop o).take (k * n) = cs
theorem SlTy.slAt {h : Hp} {F : Nat → Prop} {e n : Nat} {v : Value} {cs : List Value} (s : SlTy h F e n v cs) : SlAt h n v cs := by
  rcases s with s | ⟨b, o, k, c, all, st, h1, h2, _, h3, h4, h5, h6, h7⟩
  · exact .inl s
  · exact .inr ⟨b, o, k, c, all, h1, h2, h3, rowOf_get h4 h5, h6, h7⟩
theorem SlTy.isCell {h : Hp} {F : Nat → Prop} {e n : Nat} {v : Value} {cs : List Value} (s : SlTy h F e n v cs) : isCell v = true := by
  rcases s with ⟨rfl, _⟩ | ⟨b, o, k, c, all, st, rfl, _⟩ <;> rfl
theorem SlTy.cellsV {h : Hp} {F : Nat → Prop} {e n : Nat} {v : Value} {cs : List Value} (s : SlTy h F e n v cs) : v.cells = #[v] := by
  rcases s with ⟨rfl, _⟩ | ⟨b, o, k, c, all, st, rfl, _⟩ <;> rfl
theorem SlTy.same {h h' : Hp} {F G : Nat → Prop} {e n : Nat} {v : Value} {cs : List Value} (s : SlTy h F e n v cs) (x : Same e h h') (hg : ∀ k, F k → G k) : SlTy h' G e n v cs := by
  rcases s with s | ⟨b, o, k, c, all, st, h1, h2, hF, h3, h4, h5⟩
  · exact .inl s
  · exact .inr ⟨b, o, k, c, all, st, h1, h2, hg _ hF, Nat.lt_of_lt_of_le h3 x.1, x.2 b all st h3 h4, h5⟩
theorem append_zero {P : Program} {t e n by_ : Nat} {z : Value} (h1 : tSliceElem P t = some e) (h2 : tSize P e = some n) (h3 : tBytes P e = some by_) (h4 : tZero P e = some z) (h5 : (flat z && Nat.beq z.cells.size n) = true)
    {b : Nat} {h : Hp} {x : Value} {new : List Value} {j : Nat} (hx : lenOf x = some j) (hc : evCells n j x h = some new) (hl : new.length = j * n) (hcell : new.all isCell = true) (hbig : (2 * j + 1024) * (by_ + 1) ≤ 2 ^ 47) :
    evAppend P t (.slice (some ⟨b, 0, none⟩) 0 (2 * 0)) x h = some (bif j == 0 then (.slice (some ⟨b, 0, none⟩) 0 (2 * 0), h) else (.slice (some ⟨h.next, 0, none⟩) j (2 * j + 1), h.push (.row new e (.rw 0 [])))) := by
  simp only [Bool.and_eq_true] at h5
  have h6 : (z.cells.size == n) = true := by have := Nat.eq_of_beq_eq_true h5.2; simpa using this
  have hnl : Nat.beq new.length (j * n) = true := by rw [hl]; simp
  unfold evAppend
  simp only [h1, h2, h3, h4, hx, Option.bind_some, h6, h5.1, Bool.and_self, Bool.not_true, cond_false]
  cases hj : (j == 0) with
  | true => simp
  | false =>
    have hj0 : j ≠ 0 := by simpa using hj
    have hd : decide (0 + j ≤ 2 * 0 / 2) = false := by simp; omega
    have hb : decide ((2 * (0 + j) + 1024) * (by_ + 1) ≤ 2 ^ 47) = true := by rw [Nat.zero_add]; exact decide_eq_true hbig
    simp only [cond_false, hc, Option.bind_some, hcell, hb, hnl, Bool.and_self, Bool.not_true, Bool.or_self, hd]
    simp [evCells]
end Go.Ev
namespace Go.Ev
open Go
set_option linter.unusedSimpArgs false
set_option linter.unusedVariables false
theorem mkRow_eq (e len : Nat) (cs : List Value) : mkRow e len cs = (.row cs e (.rw 0 []), fun b => .slice (some ⟨b, 0, none⟩) len (2 * len)) := rfl
theorem ofList_nil {α : Type} (k : Nat) (t : Tr α) : Tr.ofList [] k t = t := rfl
theorem ofList_cons {α : Type} (a : α) (l : List α) (k : Nat) (t : Tr α) : Tr.ofList (a :: l) k t = Tr.ofList l (k + 1) (t.set k a) := rfl
theorem slotAt_eq (ops : Array Oper) (j : Nat) : slotAt ops j = (ops[j]?).bind (·.dst) := rfl
theorem evq : type_of% @P_make ∧ type_of% @kMk_eq ∧ type_of% @kMk2_eq ∧ type_of% @and_true ∧ type_of% @true_and ∧ type_of% @decide_true ∧ type_of% @decide_false ∧ type_of% @Nat.zero_add ∧ type_of% @Nat.add_zero ∧ type_of% @Nat.mul_one ∧ type_of% @Int.toNat_natCast ∧ type_of% @Option.bind_some.{0, 0} ∧ type_of% @Option.map_some.{0, 0} ∧ type_of% @onSome_some ∧ type_of% @Tr.get_set ∧ type_of% @evBin_lss ∧ type_of% @evBin_gtr ∧ type_of% @evBin_leq ∧ type_of% @evBin_geq ∧ type_of% @evBin_eql ∧ type_of% @evBin_neq ∧ type_of% @evBin_add ∧ type_of% @evBin_sub ∧ type_of% @evBin_eqS ∧ type_of% @evBin_neS ∧ type_of% @L_slice ∧ type_of% @Bool.not_true ∧ type_of% @Bool.not_false ∧ type_of% @List.getElem?_toArray.{0} ∧ type_of% @List.getElem?_cons_succ.{0} ∧ type_of% @List.getElem?_cons_zero.{0} ∧ type_of% @cellAt_eq ∧ type_of% @rowOb_rw ∧ type_of% @rowOb_ro ∧ type_of% @opt_none ∧ type_of% @opt_some ∧ type_of% @List.append_eq.{0} ∧ type_of% @List.cons_append.{0} ∧ type_of% @List.nil_append.{0} ∧ type_of% @mkRow_eq ∧ type_of% @ofList_nil ∧ type_of% @ofList_cons ∧ type_of% @slotAt_eq :=
  ⟨@P_make, @kMk_eq, @kMk2_eq, @and_true, @true_and, @decide_true, @decide_false, @Nat.zero_add, @Nat.add_zero, @Nat.mul_one, @Int.toNat_natCast, @Option.bind_some.{0, 0}, @Option.map_some.{0, 0}, @onSome_some, @Tr.get_set, @evBin_lss, @evBin_gtr, @evBin_leq, @evBin_geq, @evBin_eql, @evBin_neq, @evBin_add, @evBin_sub, @evBin_eqS, @evBin_neS, @L_slice, @Bool.not_true, @Bool.not_false, @List.getElem?_toArray.{0}, @List.getElem?_cons_succ.{0}, @List.getElem?_cons_zero.{0}, @cellAt_eq, @rowOb_rw, @rowOb_ro, @opt_none, @opt_some, @List.append_eq.{0}, @List.cons_append.{0}, @List.nil_append.{0}, @mkRow_eq, @ofList_nil, @ofList_cons, @slotAt_eq⟩
theorem evp : type_of% @Nat.beq_refl ∧ type_of% @Nat.add_assoc ∧ type_of% @Nat.add_left_cancel_iff ∧ type_of% @Nat.add_eq_left ∧ type_of% @Nat.left_eq_add ∧ type_of% @Nat.one_ne_zero ∧ type_of% @Nat.zero_ne_one ∧ type_of% @List.length_cons.{0} ∧ type_of% @List.length_nil.{0} ∧ type_of% @List.all_cons.{0} ∧ type_of% @List.all_nil.{0} ∧ type_of% @Bool.and_self ∧ type_of% @Bool.and_true ∧ type_of% @Bool.true_and ∧ type_of% @List.take_succ_cons.{0} ∧ type_of% @List.take_zero.{0} ∧ type_of% @List.take_nil.{0} ∧ type_of% @List.drop_succ_cons.{0} ∧ type_of% @List.drop_zero.{0} ∧ type_of% @List.drop_nil.{0} ∧ type_of% @List.append_nil.{0} ∧ type_of% @List.size_toArray.{0} :=
  ⟨@Nat.beq_refl, @Nat.add_assoc, @Nat.add_left_cancel_iff, @Nat.add_eq_left, @Nat.left_eq_add, @Nat.one_ne_zero, @Nat.zero_ne_one, @List.length_cons.{0}, @List.length_nil.{0}, @List.all_cons.{0}, @List.all_nil.{0}, @Bool.and_self, @Bool.and_true, @Bool.true_and, @List.take_succ_cons.{0}, @List.take_zero.{0}, @List.take_nil.{0}, @List.drop_succ_cons.{0}, @List.drop_zero.{0}, @List.drop_nil.{0}, @List.append_nil.{0}, @List.size_toArray.{0}⟩
end Go.Ev
namespace Go.Ev
open Go
set_option linter.unusedSimpArgs false
set_option linter.unusedVariables false
def Gr (G : Nat → Prop) (h : Hp) (v : Value) (e n : Nat) (cs : List Value) : Prop :=
  (∀ k, G k → k < h.next) ∧ ((v = .slice none 0 0 ∧ cs = []) ∨ ∃ b k base olds x, v = .slice (some ⟨b, 0, none⟩) k (2 * k + x) ∧ x ≤ 1 ∧ cs.length = k * n ∧ 1 ≤ k ∧ h.get b = some (.row cs e (.rw base olds)) ∧
    base + n ≤ cs.length ∧ G b ∧ ∀ o ∈ olds, G o)
theorem Gr.nil (h : Hp) (e n : Nat) : Gr (fun _ => False) h (.slice none 0 0) e n [] := ⟨fun _ h => h.elim, .inl ⟨rfl, rfl⟩⟩
theorem Gr.lt {G : Nat → Prop} {h : Hp} {v : Value} {e n : Nat} {cs : List Value} (g : Gr G h v e n cs) {k : Nat} (hk : G k) : k < h.next := g.1 k hk
theorem Gr.slAt {G : Nat → Prop} {h : Hp} {v : Value} {e n : Nat} {cs : List Value} (g : Gr G h v e n cs) : SlAt h n v cs := by
  obtain ⟨gl, g⟩ := g
  rcases g with g | ⟨b, k, base, olds, x, h1, h2, h3, h4, h6, h7, h8, _⟩
  · exact .inl g
  · exact .inr ⟨b, 0, k, 2 * k + x, cs, h1, by omega, gl b h8, rowOf_rw h6, h3, by rw [List.drop_zero, List.take_of_length_le (by omega)]⟩
theorem Gr.keep {G : Nat → Prop} {h h' : Hp} {v : Value} {e n : Nat} {cs : List Value} (g : Gr G h v e n cs) (hn : h.next ≤ h'.next) (hs : ∀ k, G k → h'.get k = h.get k) : Gr G h' v e n cs := by
  obtain ⟨gl, g⟩ := g
  refine ⟨fun k hk => Nat.lt_of_lt_of_le (gl k hk) hn, ?_⟩
  rcases g with g | ⟨b, j, base, olds, x, h1, h2, h3, h4, h6, h7, h8, h9⟩
  · exact .inl g
  · exact .inr ⟨b, j, base, olds, x, h1, h2, h3, h4, by rw [hs b h8]; exact h6, h7, h8, h9⟩
theorem Gr.keeps {G : Nat → Prop} {h h' : Hp} {v : Value} {e n : Nat} {cs : List Value} (g : Gr G h v e n cs) (k : Keep h h') : Gr G h' v e n cs := g.keep k.1 fun j hj => k.2 j (g.1 j hj)
section
variable {P : Program} {t e n by_ : Nat} {z : Value}
theorem append_gr (h1 : tSliceElem P t = some e) (h2 : tSize P e = some n) (h3 : tBytes P e = some by_) (h4 : tZero P e = some z) (h5 : (flat z && Nat.beq z.cells.size n) = true) (hn : 1 ≤ n)
    {G : Nat → Prop} {h : Hp} {v x : Value} {cs new : List Value} (g : Gr G h v e n cs) {j : Nat} (hx : lenOf x = some j) (hc : evCells n j x h = some new) (hj : 1 ≤ j) (hl : new.length = j * n)
    (hcell : new.all isCell = true) (hbig : (2 * (cs.length + j) + 1024) * (by_ + 1) ≤ 2 ^ 47) :
    ∃ v' h', evAppend P t v x h = some (v', h') ∧ Gr (fun k => G k ∨ k = h.next) h' v' e n (cs ++ new) ∧ h'.next = h.next + 1 ∧ ∀ c, c < h.next → ¬ G c → h'.get c = h.get c := by
  simp only [Bool.and_eq_true] at h5
  have h6 : (z.cells.size == n) = true := by have := Nat.eq_of_beq_eq_true h5.2; simpa using this
  have hj0 : (j == 0) = false := by simp; omega
  have hnl : Nat.beq new.length (j * n) = true := by rw [hl]; simp
  have hle : ∀ k, cs.length = k * n → k ≤ cs.length := fun k hk => by rw [hk]; exact Nat.le_mul_of_pos_right _ (by omega)
  have hbig' : ∀ k, cs.length = k * n → (2 * (k + j) + 1024) * (by_ + 1) ≤ 2 ^ 47 := fun k hk => by
    have h8 := hle k hk
    have h9 := Nat.mul_le_mul_right (by_ + 1) (show 2 * (k + j) + 1024 ≤ 2 * (cs.length + j) + 1024 from Nat.add_le_add_right (Nat.mul_le_mul_left _ (Nat.add_le_add_right h8 _)) _)
    exact Nat.le_trans h9 hbig
  obtain ⟨gl, g⟩ := g
  have gl' : ∀ k, (G k ∨ k = h.next) → k < h.next + 1 := fun k hk => by
    rcases hk with hk | rfl
    · exact Nat.lt_succ_of_lt (gl k hk)
    · exact Nat.lt_succ_self _
  rcases g with ⟨rfl, rfl⟩ | ⟨b, k, base, olds, y, rfl, hy, hk, hk1, hg, hbase, hb0, holds⟩
  · have hb0 := hbig' 0 (by simp)
    refine ⟨.slice (some ⟨h.next, 0, none⟩) j (2 * j + 1), h.push (.row new e (.rw 0 [])), ?_, ⟨gl', ?_⟩, rfl, fun c hc _ => Hp.get_push_lt hc⟩
    · unfold evAppend
      simp only [h1, h2, h3, h4, hx, Option.bind_some, h6, h5.1, Bool.and_self, Bool.not_true, cond_false, hj0, hc, hcell, decide_eq_true hb0, hnl, Bool.or_self]
      have hd : decide (0 + j ≤ 0 / 2) = false := by simp; omega
      simp only [hd, cond_false, Nat.zero_mod, BEq.rfl, cond_true, Nat.zero_add]
      simp [evCells, show ¬ j = 0 by omega]
    · exact .inr ⟨h.next, j, 0, [], 1, rfl, Nat.le_refl _, by simpa using hl, hj, Hp.get_push_self _ _, by simp [hl]; exact Nat.le_mul_of_pos_left _ hj, .inr rfl, by simp⟩
  · have hb1 := hbig' k hk
    have hb := gl b hb0
    have hrow := rowOf_rw hg
    have hk2 : (2 * k + y) / 2 = k := by omega
    have hd : decide (k + j ≤ (2 * k + y) / 2) = false := by simp; omega
    have hkn : k * n ≠ 0 := by
      have := Nat.mul_pos (show 0 < k by omega) (show 0 < n by omega); omega
    unfold evAppend
    simp only [h1, h2, h3, h4, hx, Option.bind_some, h6, h5.1, Bool.and_self, Bool.not_true, cond_false, hj0, hc, hcell, decide_eq_true hb1, hnl, Bool.or_self, hd]
    have hnew : base + n ≤ (cs ++ new).length ∧ cs.length + n ≤ (cs ++ new).length := by
      rw [List.length_append, hl]
      have : n ≤ j * n := Nat.le_mul_of_pos_left _ hj
      omega
    have hlen : (cs ++ new).length = (k + j) * n := by rw [List.length_append, hl, hk, Nat.add_mul]
    rcases (show y = 0 ∨ y = 1 by omega) with rfl | rfl
    · have hc0 : evCells n k (.slice (some ⟨b, 0, none⟩) k (2 * k + 0)) h = some cs := by
        unfold evCells
        have : (k * n == 0) = false := by simpa using hkn
        simp only [this, cond_false, hrow, Option.bind_some, Nat.zero_add, decide_eq_true (show k * n ≤ cs.length by omega), cond_true, List.drop_zero]
        rw [List.take_of_length_le (by omega)]
      have hm : ((2 * k + 0) % 2 == 0) = true := by simp
      simp only [hm, cond_true, hc0, Option.map_some]
      exact ⟨_, _, rfl, ⟨gl', .inr ⟨h.next, k + j, 0, [], 1, rfl, Nat.le_refl _, hlen, by omega, Hp.get_push_self _ _, by omega, .inr rfl, by simp⟩⟩, rfl, fun c hc _ => Hp.get_push_lt hc⟩
    · have hm : ((2 * k + 1) % 2 == 0) = false := by rw [show (2 * k + 1) % 2 = 1 by omega]; rfl
      have hcond : (k * n == cs.length && (2 * k + 1) / 2 == k && Nat.beq e e && decide (base ≤ cs.length)) = true := by
        rw [hk, show (2 * k + 1) / 2 = k by omega]
        simp; omega
      simp only [hm, cond_false, hg, hcond, cond_true]
      refine ⟨_, _, rfl, ⟨gl', .inr ⟨h.next, k + j, cs.length, b :: olds, 1, rfl, Nat.le_refl _, hlen, by omega, ?_, hnew.2, .inr rfl, ?_⟩⟩, rfl, fun c hc hng => ?_⟩
      · exact Hp.get_push_self (h.set b (.row cs e .ro)) _
      · intro o ho
        rcases List.mem_cons.1 ho with rfl | ho
        · exact .inl hb0
        · exact .inl (holds o ho)
      · rw [Hp.get_push_lt (show c < (h.set b _).next by show c < h.next; omega), Hp.get_set_ne (by rintro rfl; exact hng hb0)]
end
end Go.Ev
namespace Go.Ev
open Go
set_option linter.unusedSimpArgs false
set_option linter.unusedVariables false
variable {C : Ctx}
end Go.Ev
namespace Go.Ev
open Go Go.RowKit
set_option linter.unusedSimpArgs false
set_option linter.unusedVariables false
theorem Rep.commitX {P : Program} {m : Mp} {h : Hp} {w : World} (r : Rep P m h w) {c x n : Nat} {cs : List Value} {cs' : Array Value} {e : TypeId} (hc : w.heap[c]? = some (.cells cs' e (0, 0))) (hun : ∀ b L, m b = some L → L.blk ≠ c)
    (h1 : VL m cs (cs'.toList.take cs.length)) (h2 : tSize P e = some n) (h3 : cs'.size = cs.length + x * n) :
    Rep P (m.upd h.next ⟨c, x⟩) (h.push (.row cs e (.rw 0 []))) w := by
  have hn := (r.frs h.next (Nat.le_refl _)).2
  have hle : m.le (m.upd h.next ⟨c, x⟩) := Mp.le_upd hn
  have hlv : ∀ b, live (h.push (.row cs e (.rw 0 []))) b → b ≠ h.next → live h b := fun b hl hb => by
    unfold live at *; rw [Hp.get_push, if_neg hb] at hl; exact hl
  have hclt : c < w.heap.size := (Array.getElem?_eq_some_iff.1 hc).1
  refine ⟨fun b L e => ?_, fun b hb => ?_, fun b cs e st hb hd => ?_, fun b cs e base olds hb => ?_, fun b es ck hb => ?_, fun b b' L L' hl hne hm hm' he => ?_⟩
  · unfold Mp.upd at e
    split at e
    · cases e; exact hclt
    · exact r.rng b L e
  · rw [Hp.next_push] at hb
    refine ⟨?_, ?_⟩
    · rw [Hp.get_push, if_neg (by omega)]; exact (r.frs b (by omega)).1
    · unfold Mp.upd; rw [if_neg (by omega)]; exact (r.frs b (by omega)).2
  · rw [Hp.get_push] at hb
    split at hb
    · rename_i hbn
      subst hbn
      cases hb
      exact ⟨_, cs', (0, 0), Mp.upd_self _ _ _, hc, h1.mono hle⟩
    · obtain ⟨L, cs', fz, h1, h2, h3⟩ := r.row b cs e st hb hd
      exact ⟨L, cs', fz, hle _ _ h1, h2, h3.mono hle⟩
  · rw [Hp.get_push] at hb
    split at hb
    · rename_i hbn
      subst hbn
      cases hb
      exact ⟨_, cs', n, Mp.upd_self _ _ _, hc, .inl h2, h3⟩
    · obtain ⟨L, cs', n, h1, h2, h3⟩ := r.rw b cs e base olds hb
      exact ⟨L, cs', n, hle _ _ h1, h2, h3⟩
  · rw [Hp.get_push] at hb
    split at hb
    · cases hb
    · obtain ⟨L, es', h1, h2, h3⟩ := r.map b es ck hb
      exact ⟨L, es', hle _ _ h1, h2, h3.mono hle⟩
  · unfold Mp.upd at hm hm'
    split at hm
    · rename_i hbn
      cases hm
      rw [if_neg (by omega)] at hm'
      exact absurd he.symm (hun b' L' hm')
    · rename_i hbn
      split at hm'
      · cases hm'
        exact absurd he (hun b L hm)
      · rename_i hbn'
        rcases r.sep b b' L L' (hlv b hl hbn) hne hm hm' he with h1 | ⟨cs, e, base, olds, cs2, e2, h1, h2, h3, h4⟩
        · left; unfold inert at *; rw [Hp.get_push, if_neg hbn']; exact h1
        · right
          exact ⟨cs, e, base, olds, cs2, e2, by rw [Hp.get_push, if_neg hbn]; exact h1, h2, by rw [Hp.get_push, if_neg hbn']; exact h3, h4⟩
theorem Step.commitX {P : Program} {m0 m : Mp} {h0 h : Hp} {w0 w : World} (r : Rep P m h w) (s : Step m0 h0 w0 m h w) (ob : Ob) {c x : Nat} (hc : w0.heap.size ≤ c) : Step m0 h0 w0 (m.upd h.next ⟨c, x⟩) (h.push ob) w := by
  have hn := (r.frs h.next (Nat.le_refl _)).2
  refine ⟨Mp.le_trans s.le (Mp.le_upd hn), by rw [Hp.next_push]; have := s.next; omega, s.size, s.same, fun b L hl hm hlt => ?_, fun b L hm hlt => ?_, s.os, s.tape, s.output⟩
  · unfold Mp.upd at hm
    split at hm
    · cases hm; simp at hlt; omega
    · rename_i hb
      unfold live at hl; rw [Hp.get_push, if_neg hb] at hl
      exact s.liv b L hl hm hlt
  · unfold Mp.upd at hm
    split at hm
    · cases hm; simp at hlt; omega
    · exact s.old b L hm hlt
def insB (x : List UInt8) : List (List UInt8) → List (List UInt8)
  | [] => [x]
  | y :: l => bif Op.bytesLess y x then y :: insB x l else x :: y :: l
def sortB : List (List UInt8) → List (List UInt8)
  | [] => []
  | x :: l => insB x (sortB l)
theorem insB_perm (x : List UInt8) : ∀ l, (insB x l).Perm (x :: l)
  | [] => .refl _
  | y :: l => by
    unfold insB
    cases Op.bytesLess y x
    · exact .refl _
    · exact ((insB_perm x l).cons y).trans (.swap x y l)
theorem sortB_perm : ∀ l, (sortB l).Perm l
  | [] => .refl _
  | x :: l => (insB_perm x _).trans ((sortB_perm l).cons x)
theorem bytesLess_lt : ∀ (x y : List UInt8), Op.bytesLess x y = decide (x < y)
  | [], [] => by simp [Op.bytesLess]
  | [], b :: y => by simp [Op.bytesLess]
  | a :: x, [] => by simp [Op.bytesLess]
  | a :: x, b :: y => by
    have ih := bytesLess_lt x y
    unfold Op.bytesLess
    rw [ih, Bool.eq_iff_iff]
    simp [List.cons_lt_cons_iff]
theorem insB_sorted (x : List UInt8) : ∀ l, l.Pairwise (fun a b => ¬ b < a) → (insB x l).Pairwise fun a b => ¬ b < a
  | [], _ => by simp [insB]
  | y :: l, h => by
    unfold insB
    rw [bytesLess_lt]
    rw [List.pairwise_cons] at h
    by_cases hl : y < x
    · simp only [hl, decide_true, cond_true]
      rw [List.pairwise_cons]
      refine ⟨fun z hz => ?_, insB_sorted x l h.2⟩
      rcases List.mem_cons.1 ((insB_perm x l).mem_iff.1 hz) with rfl | hz
      · exact List.not_lt.2 (List.le_of_lt hl)
      · exact h.1 z hz
    · simp only [hl, decide_false, cond_false]
      rw [List.pairwise_cons]
      refine ⟨fun z hz => ?_, List.pairwise_cons.2 h⟩
      rcases List.mem_cons.1 hz with rfl | hz
      · exact hl
      · exact List.not_lt.2 (List.le_trans (List.not_lt.1 hl) (List.not_lt.1 (h.1 z hz)))
theorem sortB_sorted : ∀ l, (sortB l).Pairwise fun a b => ¬ b < a
  | [] => .nil
  | x :: l => insB_sorted x _ (sortB_sorted l)
theorem sortB_uniq {l k : List (List UInt8)} (hp : k.Perm l) (hs : k.Pairwise fun a b => ¬ b < a) : k = sortB l :=
  List.Perm.eq_of_pairwise (le := fun a b => ¬ b < a) (fun a b _ _ h1 h2 => List.le_antisymm (List.not_lt.1 h1) (List.not_lt.1 h2)) hs (sortB_sorted l) (hp.trans (sortB_perm l).symm)
def keyName (d : Int) (k : Value) : Option (Option (List UInt8)) := match k with
  | .agg cs => match cs.toList with
    | [.int .i64 x, .string s] => some (bif decide (x = d) then some s.data.toList else none)
    | _ => none
  | _ => none
def namesE (d : Int) : List MapEntry → Option (List (List UInt8))
  | [] => some []
  | e :: es => match keyName d e.key with
    | some (some s) => (namesE d es).map (s :: ·)
    | some none => namesE d es
    | none => none
def nodupB : List Nat → Bool
  | [] => true
  | x :: l => !(l.any fun y => Nat.beq x y) && nodupB l
theorem nodupB_spec : ∀ {l : List Nat}, nodupB l = true → l.Nodup
  | [], _ => .nil
  | x :: l, h => by
    simp only [nodupB, Bool.and_eq_true, Bool.not_eq_true', List.any_eq_false] at h
    rw [List.nodup_cons]
    exact ⟨fun hm => h.1 x hm (by simp), nodupB_spec h.2⟩
def bornB (es : List MapEntry) (ck : Nat) : Bool := nodupB (es.map (·.born)) && es.all fun e => decide (e.born < ck)
def encB (s : List UInt8) : Value := .string ⟨s.toArray⟩
def sumNames (T : TypeId) : Sum
  | [.pointer none, .int .i64 _], h => some (.slice none 0 0, h)
  | [.pointer (some ⟨b, 0, none⟩), .int .i64 d], h => (rowOf h b).bind fun
    | .map (some r) :: _ => match h.get r with
      | some (.map es ck) => bif bornB es ck && decide (es.length ≤ 1073741824) then (namesE d es).map fun ns => match sortB ns with
          | [] => (.slice none 0 0, h)
          | s :: ss => (.slice (some ⟨h.next, 0, none⟩) (ss.length + 1) (2 * (ss.length + 1) + 1), h.push (.row ((s :: ss).map encB) T (.rw 0 [])))
        else none
      | _ => none
    | _ => none
  | _, _ => none
theorem namesE_rel {m : Mp} {d : Int} : ∀ {es es' : List MapEntry}, EL m es es' → namesE d es' = namesE d es := by
  intro es es' h
  induction h with
  | nil => rfl
  | cons hk hf hv hb t ih => unfold namesE; rw [hk, ih]
theorem EL.born {m : Mp} {es es' : List MapEntry} (h : EL m es es') : es'.map (·.born) = es.map (·.born) := by
  induction h with
  | nil => rfl
  | cons hk hf hv hb t ih => simp [hb, ih]
theorem encB_rel {m : Mp} : ∀ l : List (List UInt8), VL m (l.map encB) (l.map encB)
  | [] => .nil
  | _ :: l => .cons (.string _) (encB_rel l)
def NamesOK (P : Program) (f : FuncId) (T : TypeId) : Prop := ∀ (tb bm : Nat) (es : Array MapEntry) (ck : Nat) (d : Int) (ns : List (List UInt8)) (w : World), w.cell? ⟨tb, 0, none⟩ = some (.map (some bm)) → w.heap[bm]? = some (.map es ck) →
  (es.toList.map (·.born)).Nodup → (∀ e ∈ es.toList, e.born < ck) → es.size ≤ 1073741824 → namesE d es.toList = some ns →
  Calls P f #[.pointer (some ⟨tb, 0, none⟩), .int .i64 d] w fun e w' => Below w.heap.size w w' ∧
    ((ns = [] ∧ e = .returned (.slice none 0 0)) ∨ ∃ g cap cs, e = .returned (.slice (some ⟨g, 0, none⟩) ns.length cap) ∧ ns ≠ [] ∧ ns.length ≤ cap ∧ w.heap.size ≤ g ∧ w'.heap[g]? = some (.cells cs T (0, 0)) ∧ cs.size = cap ∧ cs.toList.take ns.length = (sortB ns).map encB)
theorem sumNames_ok {P : Program} {I : Inv} {f : FuncId} {T : TypeId} (hT : tSize P T = some 1) (H0 : ∀ (d : Int) (w : World), Calls P f #[.pointer none, .int .i64 d] w fun e w' => e = .returned (.slice none 0 0) ∧ Below w.heap.size w w') (H : NamesOK P f T) : SumOK P I f (sumNames T) := by
  intro args h v h' e m w args' r hi hv
  unfold sumNames at e
  split at e
  · rename_i d
    simp only [Option.some.injEq, Prod.mk.injEq] at e
    obtain ⟨rfl, rfl⟩ := e
    obtain ⟨x', y', rfl, h1, h2⟩ := hv.two
    cases h1; cases h2
    refine (H0 d w).mono fun e w' he => ?_
    obtain ⟨rfl, hb⟩ := he
    obtain ⟨r', s'⟩ := r.below hb
    exact ⟨_, m, rfl, r', s', .nils⟩
  · rename_i b d
    obtain ⟨x', y', rfl, h1, h2⟩ := hv.two
    cases h2
    cases h1 with
    | ptr hL =>
      rename_i L
      obtain ⟨row, hrow, e⟩ := Option.bind_eq_some_iff.1 e
      obtain ⟨L2, cs', el, fz, k1, k2, k3, _⟩ := r.cell hrow
      obtain rfl : L2 = L := by rw [hL] at k1; exact (Option.some.inj k1).symm
      split at e
      · rename_i r0 rest _
        cases hg : h.get r0 with
        | none => rw [hg] at e; cases e
        | some ob =>
          rw [hg] at e
          cases ob with
          | row cs el st => cases e
          | map es ck =>
            simp only at e
            cases hd : (bornB es ck && decide (es.length ≤ 1073741824)) with
            | false => rw [hd] at e; cases e
            | true =>
              rw [hd] at e
              simp only [cond_true] at e
              simp only [Bool.and_eq_true, decide_eq_true_eq, bornB, List.all_eq_true] at hd
              obtain ⟨⟨d1, d2⟩, d3⟩ := hd
              obtain ⟨ns, hns, e⟩ := Option.map_eq_some_iff.1 e
              obtain ⟨L3, es', m1, m2, m3⟩ := r.map r0 es ck hg
              have hc0 : w.cell? ⟨L2.blk, 0, none⟩ = some (.map (some L3.blk)) := by
                rw [cell?_of k2]
                obtain ⟨v', hv', hr⟩ := k3.getElem? 0 (a := .map (some r0)) rfl
                rw [List.getElem?_take] at hv'
                split at hv'
                · cases hr with
                  | mp hm =>
                    rw [m1] at hm
                    cases hm
                    simpa using hv'
                · cases hv'
              have hlen : es'.size = es.length := by rw [← Array.length_toList, m3.length]
              refine (H L2.blk L3.blk es' ck d ns w hc0 m2 (by rw [m3.born]; exact nodupB_spec d1) ?_ (by omega) (by rw [namesE_rel m3]; exact hns)).mono fun ev w' he => ?_
              · intro x hx
                have hb := m3.born
                have : x.born ∈ es.map (·.born) := by rw [← hb]; exact List.mem_map_of_mem hx
                obtain ⟨y, hy, hyb⟩ := List.mem_map.1 this
                rw [← hyb]; exact d2 y hy
              · obtain ⟨hbel, he⟩ := he
                obtain ⟨r', s'⟩ := r.below hbel
                have hsl : (sortB ns).length = ns.length := (sortB_perm ns).length_eq
                rcases he with ⟨rfl, rfl⟩ | ⟨g, cap, cs2, rfl, n1, n2, n3, n4, n5, n6⟩
                · simp only [sortB, Prod.mk.injEq] at e
                  obtain ⟨rfl, rfl⟩ := e
                  exact ⟨_, m, rfl, r', s', .nils⟩
                · cases hs : sortB ns with
                  | nil => rw [hs] at hsl; simp at hsl; exact absurd (List.length_eq_zero_iff.1 hsl.symm) n1
                  | cons s ss =>
                    rw [hs] at e hsl n6
                    simp only [Prod.mk.injEq] at e
                    obtain ⟨rfl, rfl⟩ := e
                    have hl : ((s :: ss).map encB).length = ns.length := by rw [List.length_map, hsl]
                    have hun : ∀ b L, m b = some L → L.blk ≠ g := fun b L hb hg => by have := r.rng b L hb; omega
                    have hp := r'.commitX (x := cap - ns.length) (n := 1) n4 hun (cs := (s :: ss).map encB) (by rw [hl, n6]; exact encB_rel _) hT (by rw [hl]; omega)
                    refine ⟨_, _, rfl, hp, s'.commitX r' _ n3, ?_⟩
                    rw [← hsl, List.length_cons]
                    refine .slc (Mp.upd_self _ _ _) (by omega) ?_ (.inl rfl)
                    simp only [List.length_cons] at hsl
                    show cap = (2 * (ss.length + 1) + 1) / 2 + (2 * (ss.length + 1) + 1) % 2 * (cap - (ss.length + 1))
                    rw [show (2 * (ss.length + 1) + 1) % 2 = 1 by omega]
                    omega
      · cases e
  · cases e
end Go.Ev
namespace Go.Con
open Go Go.Ev
set_option linter.unusedSimpArgs false
set_option linter.unusedVariables false
namespace Hi
theorem find_none {α : Type} {p : α → Bool} {l : List α} : l.find? p = none ↔ ∀ x ∈ l, p x = false := by
  rw [List.find?_eq_none]; simp
theorem find_congr {α : Type} {p q : α → Bool} : ∀ {l : List α}, (∀ x ∈ l, p x = q x) → l.find? p = l.find? q
  | [], _ => rfl
  | a :: l, h => by
    rw [List.find?_cons, List.find?_cons, h a (by simp), find_congr fun x hx => h x (by simp [hx])]
theorem nodup_inj {α β : Type} {f : α → β} : ∀ {l : List α}, (l.map f).Nodup → ∀ {a b : α}, a ∈ l → b ∈ l → f a = f b → a = b
  | [], _, a, b, ha, _, _ => by cases ha
  | x :: l, h, a, b, ha, hb, e => by
    simp only [List.map_cons, List.nodup_cons, List.mem_map, not_exists, not_and] at h
    rcases List.mem_cons.1 ha with ea | ma <;> rcases List.mem_cons.1 hb with eb | mb
    · rw [ea, eb]
    · exact absurd (e.symm.trans (congrArg f ea)) (h.1 b mb)
    · exact absurd (e.trans (congrArg f eb)) (h.1 a ma)
    · exact nodup_inj h.2 ma mb e
section
variable {T : Hi}
theorem get_none {k : Int × ByteArray} : T.getF k = none ↔ ∀ e ∈ T.L, e.key ≠ k := by
  unfold getF
  rw [Option.map_eq_none_iff, find_none]
  simp
theorem get_some {k : Int × ByteArray} {i : Nat} (h : T.getF k = some i) : ∃ e ∈ T.L, e.key = k ∧ e.id = i := by
  unfold getF at h
  obtain ⟨e, h1, h2⟩ := Option.map_eq_some_iff.1 h
  have h3 := List.find?_some h1
  exact ⟨e, List.mem_of_find?_eq_some h1, of_decide_eq_true h3, h2⟩
theorem Ok.uniq (ok : T.Ok) {a b : En} (ha : a ∈ T.L) (hb : b ∈ T.L) (h : a.key = b.key) : a = b :=
  nodup_inj ok.keys ha hb h
theorem Ok.get_of (ok : T.Ok) {e : En} (h : e ∈ T.L) : T.getF e.key = some e.id := by
  cases hf : T.getF e.key with
  | none => exact absurd rfl (get_none.1 hf e h)
  | some i =>
    obtain ⟨x, h1, h2, h3⟩ := get_some hf
    rw [ok.uniq h1 h h2] at h3
    rw [h3]
theorem seg_none {u : Int} : T.seg u = none ↔ ∀ e ∈ T.L, T.isSeg u e.id = false := by
  unfold seg
  rw [Option.map_eq_none_iff, find_none]
theorem seg_some {u : Int} {i : Nat} (h : T.seg u = some i) : ∃ e ∈ T.L, T.isSeg u e.id = true ∧ e.id = i := by
  unfold seg at h
  obtain ⟨e, h1, h2⟩ := Option.map_eq_some_iff.1 h
  have h3 := List.find?_some h1
  exact ⟨e, List.mem_of_find?_eq_some h1, h3, h2⟩
theorem Ok.seg_of (ok : T.Ok) {e : En} (h : e ∈ T.L) {u : Int} (hu : T.isSeg u e.id = true) : T.seg u = some e.id := by
  cases hf : T.seg u with
  | none => have := seg_none.1 hf e h; rw [hu] at this; cases this
  | some i =>
    obtain ⟨x, h1, h2, h3⟩ := seg_some hf
    simp only [isSeg, Bool.and_eq_true, decide_eq_true_eq] at hu h2
    rw [← h3, ok.uids x h1 e h h2.1 hu.1 (h2.2.trans hu.2.symm)]
theorem Ok.get_lt (ok : T.Ok) {k : Int × ByteArray} {i : Nat} (h : T.getF k = some i) : i < T.B.length := by
  obtain ⟨e, h1, _, rfl⟩ := get_some h; exact ok.ids e h1
theorem Ok.seg_lt (ok : T.Ok) {u : Int} {i : Nat} (h : T.seg u = some i) : i < T.B.length := by
  obtain ⟨e, h1, _, rfl⟩ := seg_some h; exact ok.ids e h1
theorem br_lt {i : Nat} (h : i < T.B.length) : T.br i = T.B[i] := by unfold br; rw [List.getElem?_eq_getElem h]; rfl
theorem br_snoc {B : List Bn} {L L' : List En} {D D' : List Bool} {c : Bn} {i : Nat} (h : i < B.length) : (Hi.mk (B ++ [c]) L D).br i = (Hi.mk B L' D').br i := by
  unfold br; rw [List.getElem?_append_left h]
theorem br_new {B : List Bn} {L : List En} {D : List Bool} {c : Bn} : (Hi.mk (B ++ [c]) L D).br B.length = c := by
  unfold br; simp
end
section
variable {B : List Bn} {L : List En} {D : List Bool} {e : En}
theorem getF_snoc (B' : List Bn) (D' : List Bool) (h : (Hi.mk B L D).getF e.key = none) : (Hi.mk B' (L ++ [e]) D').getF = upd (Hi.mk B L D).getF e.key (some e.id) := by
  funext k
  unfold getF upd
  simp only [List.find?_append]
  by_cases hk : k = e.key
  · subst hk
    have : L.find? (fun x => decide (x.key = e.key)) = none := by simpa [getF] using h
    rw [this]; simp
  · rw [if_neg hk]
    have : decide (e.key = k) = false := by simp; exact fun h => hk h.symm
    simp [this]
theorem count_snoc (B' : List Bn) (D' : List Bool) (d : Int) : (Hi.mk B' (L ++ [e]) D').count d = (Hi.mk B L D).count d + if e.dir = d then 1 else 0 := by
  unfold count
  simp only [List.countP_append, List.countP_singleton, decide_eq_true_eq]
theorem many_snoc (B' : List Bn) (D' : List Bool) (i : Nat) : (Hi.mk B' (L ++ [e]) D').many i = (Hi.mk B L D).many i + if e.id = i then 1 else 0 := by
  unfold many
  simp only [List.countP_append, List.countP_singleton, decide_eq_true_eq]
theorem is_snoc (B' : List Bn) (L' : List En) (d : Int) : (Hi.mk B' L' (D ++ [true])).is d = if d = D.length then true else (Hi.mk B L D).is d := by
  unfold is
  by_cases h : d = D.length
  · subst h; simp
  · rw [if_neg h]
    by_cases h0 : 0 ≤ d
    · simp only [h0, decide_true, Bool.true_and]
      by_cases hl : d.toNat < D.length
      · rw [List.getElem?_append_left hl]
      · rw [List.getElem?_append_right (by omega), List.getElem?_eq_none (show D.length ≤ d.toNat by omega)]
        have : d.toNat - D.length ≠ 0 := by omega
        cases hh : d.toNat - D.length with
        | zero => exact absurd hh this
        | succ n => simp
    · simp [h0]
theorem seg_named (h : ∃ x ∈ L, x.id = e.id) : (Hi.mk B (L ++ [e]) D).seg = (Hi.mk B L D).seg := by
  obtain ⟨x, hx, he⟩ := h
  funext u
  unfold seg
  simp only [List.find?_append]
  have hs : ∀ i, (Hi.mk B (L ++ [e]) D).isSeg u i = (Hi.mk B L D).isSeg u i := fun _ => rfl
  simp only [hs]
  cases hf : L.find? (fun x => (Hi.mk B L D).isSeg u x.id) with
  | some y => simp
  | none =>
    have := find_none.1 hf x hx
    rw [he] at this
    simp [this]
theorem seg_added {c : Bn} (ids : ∀ x ∈ L, x.id < B.length) (he : e.id = B.length) (D' : List Bool) (hn : c.kind = 1 → (Hi.mk B L D).seg c.uid = none) :
    (Hi.mk (B ++ [c]) (L ++ [e]) D').seg = if c.kind = 1 then upd (Hi.mk B L D).seg c.uid (some B.length) else (Hi.mk B L D).seg := by
  have hs : ∀ u, ∀ x ∈ L, (Hi.mk (B ++ [c]) (L ++ [e]) D').isSeg u x.id = (Hi.mk B L D).isSeg u x.id := fun u x hx => by
    unfold isSeg; rw [br_snoc (ids x hx)]
  have h1 : ∀ u, (Hi.mk (B ++ [c]) (L ++ [e]) D').isSeg u e.id = (decide (c.kind = 1) && decide (c.uid = u)) := fun u => by
    unfold isSeg; rw [he, br_new]
  funext u
  unfold seg
  simp only [List.find?_append]
  rw [find_congr (hs u)]
  by_cases hk : c.kind = 1
  · rw [if_pos hk]
    unfold upd
    by_cases hu : u = c.uid
    · subst hu
      have : L.find? (fun x => (Hi.mk B L D).isSeg c.uid x.id) = none := by simpa [seg] using hn hk
      rw [this, if_pos rfl]
      have h2 := h1 c.uid
      rw [he] at h2
      simp [h2, hk, he]
    · rw [if_neg hu]
      have : ¬ c.uid = u := fun h => hu h.symm
      simp [h1, this, seg]
  · rw [if_neg hk]
    simp [h1, hk, seg]
end
section
variable {T : Hi}
theorem Ok.get_iff (ok : T.Ok) {k : Int × ByteArray} {i : Nat} : T.getF k = some i ↔ ∃ e ∈ T.L, e.key = k ∧ e.id = i :=
  ⟨get_some, fun ⟨e, h1, h2, h3⟩ => by rw [← h2, ← h3]; exact ok.get_of h1⟩
theorem Ok.seg_iff (ok : T.Ok) {u : Int} {i : Nat} : T.seg u = some i ↔ ∃ e ∈ T.L, T.isSeg u e.id = true ∧ e.id = i :=
  ⟨seg_some, fun ⟨e, h1, h2, h3⟩ => by rw [← h3]; exact ok.seg_of h1 h2⟩
theorem count_le (T : Hi) (d : Int) : T.count d ≤ T.L.length := List.countP_le_length
theorem many_le (T : Hi) (i : Nat) : T.many i ≤ T.L.length := List.countP_le_length
theorem filter_one {α β : Type} [DecidableEq β] {f : α → β} : ∀ {l : List α}, (l.map f).Nodup → ∀ {a : α}, a ∈ l → l.filter (fun x => decide (f x = f a)) = [a]
  | [], _, a, ha => by cases ha
  | x :: l, h, a, ha => by
    have h0 := h
    simp only [List.map_cons, List.nodup_cons, List.mem_map, not_exists, not_and] at h
    by_cases hx : f x = f a
    · have : x = a := nodup_inj h0 (by simp) ha hx
      subst this
      rw [List.filter_cons_of_pos (by simp)]
      congr 1
      rw [List.filter_eq_nil_iff]
      intro y hy hd
      exact h.1 y hy (of_decide_eq_true hd)
    · have hm : a ∈ l := by
        rcases List.mem_cons.1 ha with rfl | h
        · exact absurd rfl hx
        · exact h
      rw [List.filter_cons_of_neg (by simpa using hx)]
      exact filter_one h.2 hm
theorem countP_split {α : Type} (p q : α → Bool) : ∀ l : List α, l.countP p = (l.filter q).countP p + (l.filter fun x => !q x).countP p
  | [] => rfl
  | a :: l => by
    have ih := countP_split p q l
    cases hq : q a <;> cases hp : p a <;> simp [List.filter_cons, List.countP_cons, hq, hp, ih] <;> omega
theorem Ok.less (ok : T.Ok) (p : En → Bool) : (Hi.mk T.B (T.L.filter p) T.D).Ok where
  ids := fun e he => ok.ids e (List.mem_filter.1 he).1
  keys := (List.filter_sublist.map _).nodup ok.keys
  dirs := fun e he => ok.dirs e (List.mem_filter.1 he).1
  homes := fun a ha b hb => ok.homes a (List.mem_filter.1 ha).1 b (List.mem_filter.1 hb).1
  uids := fun a ha b hb => ok.uids a (List.mem_filter.1 ha).1 b (List.mem_filter.1 hb).1
  subs := fun e he => ok.subs e (List.mem_filter.1 he).1
  few := ok.few
  root := ok.root
theorem Ok.take (ok : T.Ok) {e : En} (he : e ∈ T.L) : (T.taken e.dir e.name).Ok ∧ (T.taken e.dir e.name).getF = upd T.getF e.key none ∧ (∀ d, T.count d = (T.taken e.dir e.name).count d + if e.dir = d then 1 else 0) ∧
    (∀ i, T.many i = (T.taken e.dir e.name).many i + if e.id = i then 1 else 0) := by
  have ok' : (T.taken e.dir e.name).Ok := ok.less _
  have f1 := filter_one (f := En.key) ok.keys he
  refine ⟨ok', ?_, fun d => ?_, fun i => ?_⟩
  · funext k
    unfold upd
    by_cases hk : k = e.key
    · rw [if_pos hk, get_none]
      intro x hx
      have := (List.mem_filter.1 hx).2
      subst hk
      simp only [Bool.not_eq_true', decide_eq_false_iff_not] at this; exact this
    · rw [if_neg hk]
      apply Option.ext
      intro i
      rw [ok'.get_iff, ok.get_iff]
      constructor
      · rintro ⟨x, hx, h1, h2⟩; exact ⟨x, (List.mem_filter.1 hx).1, h1, h2⟩
      · rintro ⟨x, hx, h1, h2⟩
        refine ⟨x, List.mem_filter.2 ⟨hx, ?_⟩, h1, h2⟩
        have : x.key ≠ (e.dir, e.name) := by rw [h1]; exact hk
        simp only [Bool.not_eq_true', decide_eq_false_iff_not]; exact this
  · have := countP_split (fun x : En => decide (x.dir = d)) (fun x => decide (x.key = e.key)) T.L
    unfold count
    rw [this, f1, Nat.add_comm]
    simp only [List.countP_singleton, decide_eq_true_eq]
    rfl
  · have := countP_split (fun x : En => decide (x.id = i)) (fun x => decide (x.key = e.key)) T.L
    unfold many
    rw [this, f1, Nat.add_comm]
    simp only [List.countP_singleton, decide_eq_true_eq]
    rfl
theorem many_pos {i : Nat} : 0 < T.many i ↔ ∃ e ∈ T.L, e.id = i := by
  unfold many; rw [List.countP_pos_iff]; simp
theorem count_pos {d : Int} : 0 < T.count d ↔ ∃ e ∈ T.L, e.dir = d := by
  unfold count; rw [List.countP_pos_iff]; simp
end
section
variable {T : Hi}
theorem newHi_ok : newHi.Ok := ⟨by simp [newHi], by simp [newHi], by simp [newHi], by simp [newHi], by simp [newHi], by simp [newHi], by simp [newHi], by decide⟩
theorem Ok.setB (ok : T.Ok) {i : Nat} {b : Bn} (hk : b.kind = (T.br i).kind) (hu : b.uid = (T.br i).uid) (hd : b.dir = (T.br i).dir) : (T.setB i b).Ok ∧ (T.setB i b).seg = T.seg := by
  have hb : ∀ j, (T.setB i b).br j = if j = i ∧ i < T.B.length then b else T.br j := fun j => by
    unfold Hi.setB br
    by_cases hj : j = i
    · subst hj
      by_cases hl : j < T.B.length
      · simp [hl]
      · simp [hl]
    · rw [List.getElem?_set_ne (Ne.symm hj)]; simp [hj]
  have h1 : ∀ j, ((T.setB i b).br j).kind = (T.br j).kind := fun j => by rw [hb]; split <;> simp_all
  have h2 : ∀ j, ((T.setB i b).br j).uid = (T.br j).uid := fun j => by rw [hb]; split <;> simp_all
  have h3 : ∀ j, ((T.setB i b).br j).dir = (T.br j).dir := fun j => by rw [hb]; split <;> simp_all
  refine ⟨⟨fun e he => ?_, ok.keys, ok.dirs, ok.homes, fun a ha c hc => ?_, fun e he => ?_, ?_, ok.root⟩, ?_⟩
  · have := ok.ids e he; simpa [Hi.setB] using this
  · rw [h1, h1, h2, h2]; exact ok.uids a ha c hc
  · rw [h1, h3]; exact ok.subs e he
  · have := ok.few; simpa [Hi.setB] using this
  · funext u
    unfold seg isSeg
    simp only [h1, h2]
    rfl
theorem Ok.named (ok : T.Ok) {d : Int} {n m : ByteArray} {i : Nat} (hg : T.get d n = some i) (hm : T.get d m = none) : (T.named d m i).Ok ∧ (T.named d m i).seg = T.seg := by
  obtain ⟨e, h1, h2, h3⟩ := get_some hg
  have hd : e.dir = d := congrArg Prod.fst h2
  have mem : ∀ {x}, x ∈ (T.named d m i).L → x ∈ T.L ∨ x = ⟨d, i, m⟩ := fun h => by simpa [Hi.named] using h
  have hi : ∀ {x}, x ∈ (T.named d m i).L → ∃ y ∈ T.L, y.id = x.id ∧ y.dir = x.dir := fun {x} h => by
    rcases mem h with h | rfl
    · exact ⟨x, h, rfl, rfl⟩
    · exact ⟨e, h1, h3, hd⟩
  refine ⟨⟨fun x hx => ?_, ?_, fun x hx => ?_, fun a ha b hb hab => ?_, fun a ha b hb => ?_, fun x hx => ?_, ok.few, ok.root⟩, ?_⟩
  · obtain ⟨y, hy, e1, _⟩ := hi hx; rw [← e1]; exact ok.ids y hy
  · simp only [Hi.named, List.map_append, List.map_cons, List.map_nil, List.nodup_append]
    refine ⟨ok.keys, by simp, fun a ha b hb => ?_⟩
    simp only [List.mem_singleton] at hb
    subst hb
    obtain ⟨x, hx, rfl⟩ := List.mem_map.1 ha
    exact get_none.1 hm x hx
  · obtain ⟨y, hy, _, e2⟩ := hi hx; rw [← e2]; exact ok.dirs y hy
  · obtain ⟨y, hy, e1, e2⟩ := hi ha
    obtain ⟨z, hz, f1, f2⟩ := hi hb
    rw [← e2, ← f2]; exact ok.homes y hy z hz (by rw [e1, f1, hab])
  · obtain ⟨y, hy, e1, e2⟩ := hi ha
    obtain ⟨z, hz, f1, f2⟩ := hi hb
    rw [← e1, ← f1]; exact ok.uids y hy z hz
  · obtain ⟨y, hy, e1, _⟩ := hi hx; rw [← e1]; exact ok.subs y hy
  · exact seg_named ⟨e, h1, h3⟩
theorem Ok.added (ok : T.Ok) {d : Int} {n : ByteArray} {b : Bn} (hw : T.why d n b = 0) : (T.added d n b).Ok := by
  unfold why at hw
  split at hw
  · simp at hw
  rename_i his
  split at hw
  · simp at hw
  split at hw
  · simp at hw
  rename_i hg
  have hg' : T.get d n = none := by cases h : T.get d n <;> simp_all
  have his' : T.is d = true := by simpa using his
  have mem : ∀ {x}, x ∈ (T.added d n b).L → x ∈ T.L ∨ x = ⟨d, T.B.length, n⟩ := fun h => by simpa [Hi.added] using h
  have hbr : ∀ x ∈ T.L, (T.added d n b).br x.id = T.br x.id := fun x hx => br_snoc (ok.ids x hx)
  have hnew : (T.added d n b).br T.B.length = T.clean b := br_new
  have hlen : (T.added d n b).B.length = T.B.length + 1 := by simp [Hi.added]
  have hD : T.D.length ≤ (T.added d n b).D.length := by unfold Hi.added; dsimp only; split <;> simp
  have hisn : ∀ d', T.is d' = true → (T.added d n b).is d' = true := fun d' h => by
    unfold Hi.added
    by_cases hk : b.kind = 2
    · simp only [hk, if_true]
      rw [is_snoc (L := T.L) (B := T.B)]
      split
      · rfl
      · exact h
    · simp only [hk, if_false]; exact h
  have hck : (T.clean b).kind = 1 → b.kind = 1 ∧ (T.clean b).uid = b.uid := fun h => by
    unfold clean at h ⊢
    split at h
    · rename_i hk; exact ⟨hk, by rw [if_pos hk]⟩
    · split at h <;> simp at h
  have hseg : (T.clean b).kind = 1 → T.seg b.uid = none := fun h => by
    have h1 := (hck h).1
    unfold cleanE at hw
    rw [if_pos h1] at hw
    split at hw
    · simp at hw
    · split at hw
      · simp at hw
      · rename_i h2; cases hs : T.seg b.uid <;> simp_all
  refine ⟨fun x hx => ?_, ?_, fun x hx => ?_, fun a ha c hc hac => ?_, fun a ha c hc ka kc hu => ?_, fun x hx hk => ?_, ?_, ?_⟩
  · rcases mem hx with h | rfl
    · have := ok.ids x h; omega
    · simp [hlen]
  · simp only [Hi.added, List.map_append, List.map_cons, List.map_nil, List.nodup_append]
    refine ⟨ok.keys, by simp, fun a ha c hc => ?_⟩
    simp only [List.mem_singleton] at hc
    subst hc
    obtain ⟨x, hx, rfl⟩ := List.mem_map.1 ha
    exact get_none.1 hg' x hx
  · rcases mem hx with h | rfl
    · exact hisn _ (ok.dirs x h)
    · exact hisn _ his'
  · rcases mem ha with h1 | rfl <;> rcases mem hc with h2 | rfl
    · exact ok.homes a h1 c h2 hac
    · have := ok.ids a h1; simp at hac; omega
    · have := ok.ids c h2; simp at hac; omega
    · rfl
  · rcases mem ha with h1 | rfl <;> rcases mem hc with h2 | rfl
    · rw [hbr a h1] at ka hu; rw [hbr c h2] at kc hu; exact ok.uids a h1 c h2 ka kc hu
    · rw [hbr a h1] at ka hu
      simp only [hnew] at kc hu
      have := seg_none.1 (hseg kc) a h1
      rw [(hck kc).2] at hu
      simp [isSeg, ka, hu] at this
    · rw [hbr c h2] at kc hu
      simp only [hnew] at ka hu
      have := seg_none.1 (hseg ka) c h2
      rw [(hck ka).2] at hu
      simp [isSeg, kc, ← hu] at this
    · rfl
  · rcases mem hx with h | rfl
    · rw [hbr x h] at hk ⊢
      have := ok.subs x h hk
      omega
    · simp only [hnew] at hk ⊢
      have hb : b.kind = 2 := by
        unfold clean at hk
        split at hk
        · simp at hk
        · split at hk
          · assumption
          · simp at hk
      have h0 : T.D.length ≠ 0 := fun h0 => by
        have := ok.root
        unfold is at this
        rw [List.length_eq_zero_iff.1 h0] at this
        simp at this
      unfold clean Hi.added
      simp only [hb, if_true, show ¬ (2 : Int) = 1 by decide, if_false, List.length_append, List.length_singleton]
      omega
  · have := ok.few
    rw [hlen]
    unfold Hi.added; dsimp only
    split
    · simp; omega
    · omega
  · exact hisn _ ok.root
end
end Hi
end Go.Con
namespace Go.Con
open Go Go.Ev
set_option linter.unusedSimpArgs false
set_option linter.unusedVariables false
namespace Hi
variable {T : Hi}
def memB (S : List ByteArray) (x : ByteArray) : Bool := S.any fun y => decide (y = x)
theorem memB_iff {S : List ByteArray} {x : ByteArray} : memB S x = true ↔ x ∈ S := by
  unfold memB; rw [List.any_eq_true]
  exact ⟨fun ⟨y, hy, h⟩ => by rw [← of_decide_eq_true h]; exact hy, fun h => ⟨x, h, by simp⟩⟩
theorem memB_app {S : List ByteArray} {x s : ByteArray} : memB (S ++ [s]) x = (memB S x || decide (s = x)) := by
  unfold memB; rw [List.any_append]; simp
theorem memB_no {S : List ByteArray} {x : ByteArray} (h : x ∉ S) : memB S x = false := by
  cases hb : memB S x
  · rfl
  · exact absurd (memB_iff.1 hb) h
def part (T : Hi) (i : Nat) (S : List ByteArray) : Hi := { T with L := T.L.filter fun e => !(decide (e.id = i) && memB S e.name) }
theorem Ok.part (ok : T.Ok) (i : Nat) (S : List ByteArray) : (T.part i S).Ok := ok.less _
theorem part_nil (i : Nat) : T.part i [] = T := by
  unfold part
  have : (T.L.filter fun e => !(decide (e.id = i) && memB [] e.name)) = T.L := by
    rw [List.filter_eq_self]; intro a _; simp [memB]
  rw [this]
theorem part_get (ok : T.Ok) {i : Nat} {d : Int} {s : ByteArray} {S : List ByteArray} (hs : s ∉ S) : (T.part i S).get d s = T.get d s := by
  apply Option.ext
  intro j
  rw [(ok.part i S).get_iff, ok.get_iff]
  constructor
  · rintro ⟨x, hx, h1, h2⟩; exact ⟨x, (List.mem_filter.1 hx).1, h1, h2⟩
  · rintro ⟨x, hx, h1, h2⟩
    refine ⟨x, List.mem_filter.2 ⟨hx, ?_⟩, h1, h2⟩
    have : x.name = s := congrArg Prod.snd h1
    rw [this, memB_no hs]; simp
theorem part_yes (ok : T.Ok) {i : Nat} {d : Int} {s : ByteArray} {S : List ByteArray} (hd : ∀ e ∈ T.L, e.id = i → e.dir = d) (hg : T.get d s = some i) : T.part i (S ++ [s]) = (T.part i S).taken d s := by
  obtain ⟨x, h1, h2, h3⟩ := get_some hg
  have : (T.L.filter fun e => !(decide (e.id = i) && memB (S ++ [s]) e.name)) = (T.L.filter fun e => !(decide (e.id = i) && memB S e.name)).filter fun e => !decide (e.key = (d, s)) := by
    rw [List.filter_filter]
    apply List.filter_congr
    intro e he
    have key : (e.key = (d, s)) ↔ (e.id = i ∧ e.name = s) := by
      constructor
      · intro hk
        have := ok.uniq he h1 (hk.trans h2.symm)
        subst this
        exact ⟨h3, congrArg Prod.snd hk⟩
      · rintro ⟨hi, hn⟩
        unfold En.key; rw [hd e he hi, hn]
    rw [memB_app]
    have e1 : decide (e.key = (d, s)) = (decide (e.id = i) && decide (s = e.name)) := by
      rw [Bool.eq_iff_iff]
      simp only [decide_eq_true_eq, Bool.and_eq_true, key]
      exact ⟨fun h => ⟨h.1, h.2.symm⟩, fun h => ⟨h.1, h.2.symm⟩⟩
    rw [e1]
    cases decide (e.id = i) <;> cases memB S e.name <;> cases decide (s = e.name) <;> rfl
  unfold part taken; rw [this]
theorem part_no (ok : T.Ok) {i : Nat} {d : Int} {s : ByteArray} {S : List ByteArray} (hd : ∀ e ∈ T.L, e.id = i → e.dir = d) (hg : T.get d s ≠ some i) : T.part i (S ++ [s]) = T.part i S := by
  have : (T.L.filter fun e => !(decide (e.id = i) && memB (S ++ [s]) e.name)) = (T.L.filter fun e => !(decide (e.id = i) && memB S e.name)) := by
    apply List.filter_congr
    intro e he
    by_cases hi : e.id = i
    · have hn : e.name ≠ s := fun hn => hg (ok.get_iff.2 ⟨e, he, by unfold En.key; rw [hd e he hi, hn], hi⟩)
      rw [memB_app]
      simp [hi, Ne.symm hn]
    · simp [hi]
  unfold part; rw [this]
theorem part_all {i : Nat} {S : List ByteArray} (h : ∀ e ∈ T.L, e.id = i → e.name ∈ S) : (T.part i S).L = T.L.filter fun e => !decide (e.id = i) := by
  unfold part
  apply List.filter_congr
  intro e he
  by_cases hi : e.id = i
  · simp [hi, memB_iff.2 (h e he hi)]
  · simp [hi]
theorem is_set {B : List Bn} {L : List En} {x : Int} (hx : 0 ≤ x) (d : Int) : (Hi.mk B L (T.D.set x.toNat false)).is d = if d = x then false else T.is d := by
  unfold is
  by_cases h : d = x
  · subst h
    rw [if_pos rfl]
    by_cases hl : d.toNat < T.D.length
    · simp [hl]
    · simp [List.getElem?_eq_none (show (T.D.set d.toNat false).length ≤ d.toNat by simp; omega)]
  · rw [if_neg h]
    by_cases h0 : 0 ≤ d
    · rw [List.getElem?_set_ne (by omega)]
    · simp [h0]
theorem Ok.gone (ok : T.Ok) {d : Int} {n : ByteArray} {i : Nat} (hg : T.get d n = some i) (hc : (T.br i).kind = 2 → T.count (T.br i).dir = 0) : (T.gone i).Ok ∧ (T.gone i).getF = (Hi.mk T.B (T.L.filter fun e => !decide (e.id = i)) T.D).getF ∧
    (T.gone i).seg = (if (T.br i).kind = 1 then upd T.seg (T.br i).uid none else T.seg) ∧
    (T.gone i).dirF = (if (T.br i).kind = 2 then upd (Hi.mk T.B (T.L.filter fun e => !decide (e.id = i)) T.D).dirF (T.br i).dir none else (Hi.mk T.B (T.L.filter fun e => !decide (e.id = i)) T.D).dirF) := by
  obtain ⟨e0, h1, h2, h3⟩ := get_some hg
  have hsub := ok.subs e0 h1
  rw [h3] at hsub
  have base := ok.less fun e => !decide (e.id = i)
  have hx : ∀ d', (T.gone i).is d' = if (T.br i).kind = 2 ∧ d' = (T.br i).dir then false else T.is d' := fun d' => by
    unfold Hi.gone
    by_cases hk : (T.br i).kind = 2
    · simp only [hk, if_true, true_and]
      exact is_set (by have := hsub hk; omega) d'
    · simp [hk]; rfl
  have mem : ∀ {x}, x ∈ (T.gone i).L → x ∈ T.L := fun h => (List.mem_filter.1 h).1
  have ok' : (T.gone i).Ok := by
    refine ⟨base.ids, base.keys, fun x hm => ?_, base.homes, base.uids, fun x hm hk => ?_, ?_, ?_⟩
    · rw [hx, if_neg]
      · exact ok.dirs x (mem hm)
      · rintro ⟨hk, hd⟩
        have := hc hk
        have hp : 0 < T.count (T.br i).dir := count_pos.2 ⟨x, mem hm, hd⟩
        omega
    · have := ok.subs x (mem hm) hk
      have hl : (T.gone i).D.length = T.D.length := by unfold Hi.gone; dsimp only; split <;> simp
      rw [hl]; exact this
    · have hl : (T.gone i).D.length = T.D.length := by unfold Hi.gone; dsimp only; split <;> simp
      have := ok.few
      show (T.gone i).D.length ≤ T.B.length + 1
      omega
    · rw [hx, if_neg]
      · exact ok.root
      · rintro ⟨hk, hd⟩; have := hsub hk; omega
  refine ⟨ok', rfl, ?_, ?_⟩
  · funext u
    apply Option.ext
    intro j
    rw [ok'.seg_iff]
    have hs : ∀ u j, (T.gone i).isSeg u j = T.isSeg u j := fun _ _ => rfl
    have hseg : (∃ x ∈ (T.gone i).L, T.isSeg u x.id = true ∧ x.id = j) ↔ (T.seg u = some j ∧ j ≠ i) := by
      rw [ok.seg_iff]
      constructor
      · rintro ⟨x, hm, e1, e2⟩
        refine ⟨⟨x, mem hm, e1, e2⟩, ?_⟩
        have := (List.mem_filter.1 hm).2
        rw [← e2]; simpa using this
      · rintro ⟨⟨x, hm, e1, e2⟩, hj⟩
        exact ⟨x, List.mem_filter.2 ⟨hm, by rw [e2]; simpa using hj⟩, e1, e2⟩
    simp only [hs]
    rw [hseg]
    by_cases hk : (T.br i).kind = 1
    · rw [if_pos hk]
      unfold upd
      by_cases hu : u = (T.br i).uid
      · subst hu
        rw [if_pos rfl]
        have : T.seg (T.br i).uid = some i := ok.seg_iff.2 ⟨e0, h1, by simp [isSeg, h3, hk], h3⟩
        rw [this]; simp; exact fun h => h.symm
      · rw [if_neg hu]
        constructor
        · exact fun h => h.1
        · intro h
          refine ⟨h, ?_⟩
          rintro rfl
          obtain ⟨x, _, e1, e2⟩ := seg_some h
          rw [e2] at e1
          simp [isSeg] at e1
          exact hu e1.2.symm
    · rw [if_neg hk]
      constructor
      · exact fun h => h.1
      · intro h
        refine ⟨h, ?_⟩
        rintro rfl
        obtain ⟨x, _, e1, e2⟩ := seg_some h
        rw [e2] at e1
        simp [isSeg] at e1
        exact hk e1.1
  · have hcnt : ∀ d', (T.gone i).count d' = (Hi.mk T.B (T.L.filter fun e => !decide (e.id = i)) T.D).count d' := fun _ => rfl
    have his : ∀ d', (Hi.mk T.B (T.L.filter fun e => !decide (e.id = i)) T.D).is d' = T.is d' := fun _ => rfl
    funext d'
    by_cases hk : (T.br i).kind = 2
    · rw [if_pos hk]
      unfold upd dirF
      rw [hx]
      by_cases hd : d' = (T.br i).dir
      · simp [hk, hd]
      · simp [hk, hd, his, hcnt]
    · rw [if_neg hk]
      unfold dirF
      rw [hx]
      simp [hk, his, hcnt]
end Hi
end Go.Con
namespace Go.Con
open Go
set_option linter.unusedSimpArgs false
set_option linter.unusedVariables false
structure Sto where
  quota : Int
  L : List (Option (List Int))
namespace Sto
def lenO : Option (List Int) → Nat
  | some w => w.length
  | none => 0
variable (S : Sto)
def used : Nat := (S.L.map lenO).sum
def room (u : Int) : Option (List Int) := if 1 ≤ u then (S.L[u.toNat - 1]?).join else none
def mayE (n gone : Int) : Int := if n < 0 ∨ 1024 < n then 1 else if S.quota - n < S.used - gone then 6 else 0
def made (n : Int) : Sto := { S with L := S.L ++ [some (List.replicate n.toNat 0)] }
def make (n : Int) : Sto × Int × Int := if S.mayE n 0 = 0 then (S.made n, S.L.length + 1, 0) else (S, 0, S.mayE n 0)
def setR (u : Int) (o : Option (List Int)) : Sto := { S with L := S.L.set (u.toNat - 1) o }
def drop (u : Int) : Sto × Int := match S.room u with
  | none => (S, 4)
  | some _ => (S.setR u none, 0)
def size (u : Int) : Int × Int := match S.room u with
  | none => (0, 4)
  | some w => (w.length, 0)
def read (u off : Int) : Int × Int := match S.room u with
  | none => (0, 4)
  | some w => if off < 0 ∨ w.length ≤ off then (0, 8) else ((w[off.toNat]?).getD 0, 0)
def cut36 (x : Int) : Int := x % 68719476736
def write (u off x : Int) : Sto × Int := match S.room u with
  | none => (S, 4)
  | some w => if off < 0 ∨ w.length ≤ off then (S, 8) else (S.setR u (some (w.set off.toNat (cut36 x))), 0)
structure Ok : Prop where
  quota : 0 ≤ S.quota
  used : (S.used : Int) ≤ S.quota
  len : ∀ u w, S.room u = some w → w.length ≤ 1024
  words : ∀ u w, S.room u = some w → ∀ x ∈ w, 0 ≤ x ∧ x < 68719476736
variable {S}
theorem room_some {u : Int} {w : List Int} (h : S.room u = some w) : 1 ≤ u ∧ u.toNat - 1 < S.L.length ∧ S.L[u.toNat - 1]? = some (some w) := by
  unfold room at h
  by_cases h1 : 1 ≤ u
  · rw [if_pos h1] at h
    cases hx : S.L[u.toNat - 1]? with
    | none => rw [hx] at h; cases h
    | some o =>
      rw [hx] at h
      have h : o = some w := h
      subst h
      exact ⟨h1, (List.getElem?_eq_some_iff.1 hx).1, rfl⟩
  · rw [if_neg h1] at h; cases h
theorem sum_set (f : Option (List Int) → Nat) : ∀ (L : List (Option (List Int))) (i : Nat) (o p : Option (List Int)), L[i]? = some p → ((L.set i o).map f).sum + f p = (L.map f).sum + f o
  | [], i, o, p, h => by simp at h
  | a :: L, 0, o, p, h => by simp at h; subst h; simp; omega
  | a :: L, i + 1, o, p, h => by
    have := sum_set f L i o p (by simpa using h)
    simp only [List.set_cons_succ, List.map_cons, List.sum_cons]; omega
theorem used_setR {u : Int} {w : List Int} (h : S.room u = some w) (o : Option (List Int)) : (S.setR u o).used + w.length = S.used + lenO o := by
  obtain ⟨_, _, h3⟩ := room_some h
  exact sum_set lenO S.L _ o _ h3
theorem room_setR {u : Int} {w : List Int} (h : S.room u = some w) (o : Option (List Int)) (x : Int) : (S.setR u o).room x = if x = u then o else S.room x := by
  obtain ⟨h1, h2, h3⟩ := room_some h
  unfold room setR
  by_cases hx : x = u
  · subst hx
    rw [if_pos h1, if_pos rfl]
    simp [h2]
  · rw [if_neg hx]
    by_cases h4 : 1 ≤ x
    · rw [if_pos h4, if_pos h4, List.getElem?_set_ne (by omega)]
    · rw [if_neg h4, if_neg h4]
theorem used_made (n : Int) : (S.made n).used = S.used + n.toNat := by
  unfold used made; simp [lenO]
theorem room_made (n : Int) (x : Int) : (S.made n).room x = if x = S.L.length + 1 then some (List.replicate n.toNat 0) else S.room x := by
  unfold room made
  by_cases hx : x = S.L.length + 1
  · subst hx
    rw [if_pos (by omega), if_pos rfl]
    have : ((S.L.length : Int) + 1).toNat - 1 = S.L.length := by omega
    rw [this]; simp
  · rw [if_neg hx]
    by_cases h4 : 1 ≤ x
    · rw [if_pos h4, if_pos h4]
      by_cases h5 : x.toNat - 1 < S.L.length
      · rw [List.getElem?_append_left h5]
      · rw [List.getElem?_eq_none (by simp; omega), List.getElem?_eq_none (by omega)]
    · rw [if_neg h4, if_neg h4]
theorem Ok.new {q : Int} : Ok ⟨max q 0, []⟩ := by
  refine ⟨by show (0 : Int) ≤ max q 0; omega, by show ((0 : Nat) : Int) ≤ max q 0; omega, fun u w h => ?_, fun u w h => ?_⟩
  · have := (room_some h).2.1; simp at this
  · have := (room_some h).2.1; simp at this
theorem mayE_zero {n g : Int} (h : S.mayE n g = 0) : 0 ≤ n ∧ n ≤ 1024 ∧ (S.used : Int) - g ≤ S.quota - n := by
  unfold mayE at h
  split at h
  · cases h
  · split at h
    · cases h
    · omega
theorem Ok.made (ok : S.Ok) {n : Int} (h : S.mayE n 0 = 0) : (S.made n).Ok := by
  obtain ⟨h1, h2, h3⟩ := mayE_zero h
  refine ⟨ok.quota, ?_, fun u w hr => ?_, fun u w hr => ?_⟩
  · rw [used_made]; show _ ≤ S.quota; omega
  · rw [room_made] at hr
    split at hr
    · cases hr; simp; omega
    · exact ok.len u w hr
  · rw [room_made] at hr
    split at hr
    · cases hr; intro x hx; obtain ⟨_, rfl⟩ := List.mem_replicate.1 hx; omega
    · exact ok.words u w hr
theorem Ok.set (ok : S.Ok) {u : Int} {w w' : List Int} (h : S.room u = some w) (hl : w'.length ≤ 1024) (hq : (S.used : Int) - w.length + w'.length ≤ S.quota) (hw : ∀ x ∈ w', 0 ≤ x ∧ x < 68719476736) : (S.setR u (some w')).Ok := by
  have hu := used_setR h (some w')
  refine ⟨ok.quota, ?_, fun v z hr => ?_, fun v z hr => ?_⟩
  · simp only [lenO] at hu; show ((S.setR u (some w')).used : Int) ≤ S.quota; omega
  · rw [room_setR h] at hr
    split at hr
    · cases hr; exact hl
    · exact ok.len v z hr
  · rw [room_setR h] at hr
    split at hr
    · cases hr; exact hw
    · exact ok.words v z hr
theorem Ok.del (ok : S.Ok) {u : Int} {w : List Int} (h : S.room u = some w) : (S.setR u none).Ok := by
  have hu := used_setR h none
  refine ⟨ok.quota, ?_, fun v z hr => ?_, fun v z hr => ?_⟩
  · have := ok.used; simp only [lenO] at hu; show ((S.setR u none).used : Int) ≤ S.quota; omega
  · rw [room_setR h] at hr
    split at hr
    · cases hr
    · exact ok.len v z hr
  · rw [room_setR h] at hr
    split at hr
    · cases hr
    · exact ok.words v z hr
end Sto
def fineB (b : Bk) (r : Int) : Bool := bkMay b && decide (0 ≤ r) && decide (r ≤ 7)
def readE (b : Bk) (f : Fl) (r : Int) : Int := if fineB b r = false then 1 else if f.r = false then 9 else if b.r2 < r then 10 else 0
def writeE (b : Bk) (f : Fl) (r : Int) : Int := if fineB b r = false then 1 else if f.w = false then 9 else if b.r1 < r then 10 else 0
def callE (b : Bk) (f : Fl) (r off : Int) : Int × Int := if fineB b r = false then (0, 1) else if f.e = false then (0, 9) else if r < b.r1 ∨ b.r3 < r then (0, 10) else if r ≤ b.r2 then (r, 0) else if off < 0 ∨ b.g ≤ off then (0, 11) else (b.r2, 0)
structure Sd where
  uid : Int
  size : Int
  f : Fl
  b : Bk
def inE (x : Sd) (e off : Int) : Int := if e = 0 ∧ (off < 0 ∨ x.size ≤ off) then 8 else e
def Sd.read (x : Sd) (r off : Int) : Int := inE x (readE x.b x.f r) off
def Sd.write (x : Sd) (r off : Int) : Int := inE x (writeE x.b x.f r) off
def Sd.call (x : Sd) (r off : Int) : Int × Int := let e := inE x (callE x.b x.f r off).2 off; if e = 0 then ((callE x.b x.f r off).1, 0) else (0, e)
end Go.Con
namespace Go.Con
open Go
set_option linter.unusedSimpArgs false
set_option linter.unusedVariables false
def Hi.Kinds (T : Hi) : Prop := ∀ d n b, T.look d n = some b → b.kind = 1 ∨ b.kind = 2 ∨ b.kind = 3
end Go.Con
namespace Go.Con
open Go
set_option linter.unusedSimpArgs false
set_option linter.unusedVariables false
structure Dd where
  act : Int
  dir : Int
  name : ByteArray
  more : ByteArray
  b : Bn
namespace Hi
variable (T : Hi)
def step (d : Dd) : Hi :=
  if d.act ≤ 4 then (T.add d.dir d.name d.b).1 else if d.act = 5 then (T.name d.dir d.name d.more).1 else if d.act = 6 then (T.unname d.dir d.name).1
  else if d.act = 7 then (T.delete d.dir d.name).1 else if d.act = 8 then (T.access d.dir d.name d.b.acl).1 else (T.ringed d.dir d.name d.b.b).1
def Kin : Prop := ∀ b ∈ T.B, b.kind = 1 ∨ b.kind = 2 ∨ b.kind = 3
def Few (n : Nat) : Prop := T.L.length ≤ n ∧ T.B.length ≤ n
theorem newHi_few : newHi.Few 0 := ⟨Nat.le_refl _, Nat.le_refl _⟩
variable {T}
theorem Few.mono {n m : Nat} (f : T.Few n) (h : n ≤ m) : T.Few m := ⟨Nat.le_trans f.1 h, Nat.le_trans f.2 h⟩
theorem Kin.setB (k : T.Kin) (i : Nat) (b : Bn) (h : b.kind = 1) : (T.setB i b).Kin := by
  intro x hx
  rcases List.mem_or_eq_of_mem_set hx with hx | rfl
  · exact k x hx
  · exact .inl h
theorem Kin.add (k : T.Kin) (d : Int) (n : ByteArray) (b : Bn) : (T.add d n b).1.Kin := by
  unfold Hi.add
  split
  · intro x hx
    unfold added at hx
    rcases List.mem_append.1 hx with hx | hx
    · exact k x hx
    · rw [List.mem_singleton.1 hx]
      unfold clean
      split
      · exact .inl rfl
      · split
        · exact .inr (.inl rfl)
        · exact .inr (.inr rfl)
  · exact k
theorem Few.add {m : Nat} (k : T.Few m) (d : Int) (n : ByteArray) (b : Bn) : (T.add d n b).1.Few (m + 1) := by
  unfold Hi.add
  split
  · exact ⟨by simp [added]; exact k.1, by simp [added]; exact k.2⟩
  · exact k.mono (Nat.le_succ _)
theorem Kin.step {T : Hi} (k : T.Kin) (d : Dd) : (T.step d).Kin := by
  unfold Hi.step
  split
  · exact k.add _ _ _
  split
  · unfold Hi.name named; split
    · exact k
    · split
      · exact k
      · split <;> exact k
  split
  · unfold Hi.unname taken; split
    · exact k
    · split <;> exact k
  split
  · unfold Hi.delete gone; split
    · exact k
    · split <;> exact k
  split
  · unfold Hi.access; split
    · exact k
    · split
      · exact k
      · rename_i h
        split
        · exact k
        · exact k.setB _ _ (by simpa using h)
  · unfold Hi.ringed; split
    · exact k
    · split
      · exact k
      · rename_i h
        split
        · exact k
        · exact k.setB _ _ (by simpa using h)
theorem Few.step {m : Nat} (k : T.Few m) (d : Dd) : (T.step d).Few (m + 1) := by
  have k' := k.mono (Nat.le_succ m)
  unfold Hi.step
  split
  · exact k.add _ _ _
  split
  · unfold Hi.name named; split
    · exact k'
    · split
      · exact k'
      · split
        · exact k'
        · exact ⟨by simp; exact k.1, k'.2⟩
  split
  · unfold Hi.unname taken; split
    · exact k'
    · split
      · exact k'
      · exact ⟨Nat.le_trans (List.length_filter_le _ _) k'.1, k'.2⟩
  split
  · unfold Hi.delete gone; split
    · exact k'
    · split
      · exact k'
      · exact ⟨Nat.le_trans (List.length_filter_le _ _) k'.1, k'.2⟩
  split
  · unfold Hi.access setB; split
    · exact k'
    · split
      · exact k'
      · split
        · exact k'
        · exact ⟨k'.1, by simp; exact k'.2⟩
  · unfold Hi.ringed setB; split
    · exact k'
    · split
      · exact k'
      · split
        · exact k'
        · exact ⟨k'.1, by simp; exact k'.2⟩
theorem Kin.kinds (k : T.Kin) (ok : T.Ok) : T.Kinds := by
  intro d n b h
  unfold Hi.look at h
  obtain ⟨i, h1, rfl⟩ := Option.map_eq_some_iff.1 h
  have hi := ok.get_lt h1
  exact k _ (by rw [br_lt hi]; exact List.getElem_mem hi)
end Hi
end Go.Con
