/- Texts joined: what the claim needs of them. No condition. -/
import Derived.Lib.Split
import Derived.Lib.Join
import Derived.Lib.Bytealg
import GoSem.Op.String
import Derived.Test.YtojcfpgapfceiaaDoorEvM3
import Derived.Test.YtojcfpgapfceiaaDoorEvM2
import Derived.Test.YtojcfpgapfceiaaDoorProg
namespace Go.Con
open Go
set_option linter.unusedSimpArgs false
set_option linter.unusedVariables false
theorem ba_ext {a b : ByteArray} (h : a.data.toList = b.data.toList) : a = b := by
  cases a; cases b; simp only [ByteArray.mk.injEq]; exact Array.toList_inj.1 h
def ofL (l : List UInt8) : ByteArray := ⟨l.toArray⟩
theorem ofL_of (s : ByteArray) : ofL s.data.toList = s := ba_ext rfl
theorem size_eq (s : ByteArray) : s.size = s.data.toList.length := (Array.length_toList (xs := s.data)).symm
def signB (b : UInt8) : Bool := decide (33 ≤ b.toNat) && decide (b.toNat ≤ 126) && !decide (b.toNat = 62)
def plainB (s : ByteArray) (most : Nat) : Bool := decide (1 ≤ s.size) && decide (s.size ≤ most) && s.data.toList.all signB
abbrev mayN (s : ByteArray) : Bool := plainB s 32
abbrev mayU (s : ByteArray) : Bool := plainB s 16
def cut : List UInt8 → List (List UInt8)
  | [] => [[]]
  | c :: l => if c = 62 then [] :: cut l else (c :: (cut l).headD []) :: (cut l).tail
theorem cut_cons (c : UInt8) (l : List UInt8) : cut (c :: l) = if c = 62 then [] :: cut l else (c :: (cut l).headD []) :: (cut l).tail := rfl
theorem cut_ne : ∀ l, cut l ≠ []
  | [] => by simp [cut]
  | c :: l => by unfold cut; split <;> simp
def split (s : ByteArray) : Option (List ByteArray) :=
  match s.data.toList with
  | [] => none
  | c :: l => if c = 62 then (if l = [] then some [] else if 168 < s.size then none else if 16 < (cut l).length then none
      else if ((cut l).map ofL).all mayN then some ((cut l).map ofL) else none) else none
def join (ps : List ByteArray) : ByteArray := ofL (62 :: [62].intercalate (ps.map (·.data.toList)))
theorem index_one (c : UInt8) : ∀ l : List UInt8, Lib.index (c :: l) [62] = if c = 62 then 0 else if Lib.index l [62] = -1 then -1 else Lib.index l [62] + 1 := by
  intro l
  have e : Lib.index (c :: l) [62] = if ([62] : List UInt8).isPrefixOf (c :: l) then 0 else if Lib.index l [62] == -1 then -1 else Lib.index l [62] + 1 := rfl
  rw [e]
  by_cases h : c = 62
  · subst h; simp
  · have : ([62] : List UInt8).isPrefixOf (c :: l) = false := by
      show ((62 : UInt8) == c && _) = false
      rw [show ((62 : UInt8) == c) = false from beq_false_of_ne (Ne.symm h)]; rfl
    rw [this, if_neg (by decide), if_neg h]; simp only [beq_iff_eq]
theorem cut_miss : ∀ l : List UInt8, Lib.index l [62] = -1 → cut l = [l]
  | [], _ => rfl
  | c :: l, h => by
    rw [index_one] at h
    by_cases hc : c = 62
    · rw [if_pos hc] at h; omega
    · rw [if_neg hc] at h
      have h2 : Lib.index l [62] = -1 := by
        by_cases e : Lib.index l [62] = -1
        · exact e
        · rw [if_neg e] at h
          have := Lib.index_ge l [62]
          omega
      rw [cut_cons, if_neg hc, cut_miss l h2]; rfl
theorem cut_hit : ∀ (l : List UInt8) (i : Nat), Lib.index l [62] = i → cut l = l.take i :: cut (l.drop (i + 1))
  | [], i, h => by simp [Lib.index] at h
  | c :: l, i, h => by
    rw [index_one] at h
    by_cases hc : c = 62
    · rw [if_pos hc] at h
      have : i = 0 := by omega
      subst this
      subst hc
      simp [cut]
    · rw [if_neg hc] at h
      by_cases e : Lib.index l [62] = -1
      · rw [if_pos e] at h; omega
      · rw [if_neg e] at h
        have := Lib.index_ge l [62]
        obtain ⟨j, rfl⟩ : ∃ j, i = j + 1 := ⟨i - 1, by omega⟩
        rw [cut_cons, if_neg hc, cut_hit l j (by omega)]; simp
theorem splitK_cut : ∀ (n : Nat) (l : List UInt8), Lib.count l [62] = n → Lib.splitK [62] 0 n l = cut l
  | 0, l, h => by
    unfold Lib.splitK
    refine (cut_miss l ?_).symm
    refine Decidable.byContradiction fun hn => ?_
    have hg := Lib.index_ge l [62]
    obtain ⟨i, hi⟩ : ∃ i : Nat, Lib.index l [62] = i := ⟨(Lib.index l [62]).toNat, by omega⟩
    rw [Lib.count_hit (by simp) hi] at h; omega
  | n + 1, l, h => by
    unfold Lib.splitK
    by_cases hm : Lib.index l [62] = -1
    · rw [if_pos (beq_iff_eq.2 hm), cut_miss l hm]
    · rw [if_neg (fun e => hm (beq_iff_eq.1 e))]
      have hg := Lib.index_ge l [62]
      obtain ⟨i, hi⟩ : ∃ i : Nat, Lib.index l [62] = i := ⟨(Lib.index l [62]).toNat, by omega⟩
      rw [Lib.count_hit (by simp) hi] at h
      have e : (Lib.index l [62]).toNat = i := by omega
      rw [cut_hit l i hi, e]
      simp only [Nat.add_zero, List.length_singleton]
      simp only [List.length_singleton] at h
      rw [splitK_cut n _ (by omega)]
theorem splitB_cut (s : ByteArray) : Lib.splitB (ofL [62]) 0 (Lib.countB s (ofL [62])) s = (cut s.data.toList).map ofL := by
  have h := Lib.splitB_data (ofL [62]) 0 (Lib.countB s (ofL [62])) s
  have h2 : Lib.splitK [62] 0 (Lib.countB s (ofL [62])) s.data.toList = cut s.data.toList := splitK_cut _ _ rfl
  rw [show (ofL [62]).data.toList = [62] from rfl, h2] at h
  rw [← h, List.map_map]
  have : (ofL ∘ fun x : ByteArray => x.data.toList) = id := by funext x; exact ofL_of x
  rw [this, List.map_id]
end Go.Con
namespace Go.Con
open Go
set_option linter.unusedSimpArgs false
set_option linter.unusedVariables false
structure Fl where
  r : Bool
  w : Bool
  e : Bool
  deriving DecidableEq
structure Bk where
  r1 : Int
  r2 : Int
  r3 : Int
  g : Int
  deriving DecidableEq
structure Tm where
  user : ByteArray
  f : Fl
  deriving DecidableEq
structure Bn where
  kind : Int
  uid : Int
  dir : Int
  link : ByteArray
  object : Bool
  acl : List Tm
  b : Bk
  deriving DecidableEq
def noFl : Fl := ⟨false, false, false⟩
def noBk : Bk := ⟨0, 0, 0, 0⟩
def noBn : Bn := ⟨0, 0, 0, ByteArray.empty, false, [], noBk⟩
def bkMay (b : Bk) : Bool := decide (0 ≤ b.r1) && decide (b.r1 ≤ b.r2) && decide (b.r2 ≤ b.r3) && decide (b.r3 ≤ 7) && decide (0 ≤ b.g) && decide (b.g ≤ 1024)
def star : ByteArray := ⟨#[42]⟩
def userT (s : ByteArray) : Bool := decide (s = star) || mayU s
def ltS (a b : ByteArray) : Bool := decide (a.data.toList < b.data.toList)
theorem cmp_lt : ∀ (x y : List UInt8), Lib.compareBytes x y < 0 ↔ x < y
  | [], [] => by simp [Lib.compareBytes]
  | [], b :: y => by simp [Lib.compareBytes]
  | a :: x, [] => by simp [Lib.compareBytes]
  | a :: x, b :: y => by
    have ih := cmp_lt x y
    unfold Lib.compareBytes
    rw [List.cons_lt_cons_iff]
    by_cases h : a < b
    · simp [h]
    · by_cases h2 : b < a
      · have : a ≠ b := by rintro rfl; exact h h2
        simp [h, h2, this]
      · have : a = b := UInt8.le_antisymm (UInt8.not_lt.1 h2) (UInt8.not_lt.1 h)
        subst this
        simp [ih]
theorem bless_lt : ∀ (x y : List UInt8), Op.bytesLess x y = decide (x < y)
  | [], [] => by simp [Op.bytesLess]
  | [], b :: y => by simp [Op.bytesLess]
  | a :: x, [] => by simp [Op.bytesLess]
  | a :: x, b :: y => by
    have ih := bless_lt x y
    unfold Op.bytesLess
    rw [ih, Bool.eq_iff_iff]
    simp [List.cons_lt_cons_iff]
theorem ltS_cmp (a b : ByteArray) : ltS a b = decide (Lib.compareBytes a.data.toList b.data.toList < 0) := by
  unfold ltS; rw [Bool.eq_iff_iff]; simp [cmp_lt]
theorem leS_not {a b : List UInt8} : (decide (a < b) || (a == b)) = !decide (b < a) := by
  rw [Bool.eq_iff_iff]
  simp only [Bool.or_eq_true, decide_eq_true_eq, beq_iff_eq, Bool.not_eq_true', decide_eq_false_iff_not, List.not_lt]
  constructor
  · rintro (h | rfl)
    · exact List.le_of_lt h
    · exact List.le_refl _
  · intro h
    by_cases e : a = b
    · exact .inr e
    · left
      refine Decidable.byContradiction fun hn => e (List.le_antisymm h (List.not_lt.1 hn))
def tmAt (l : List Tm) (i : Nat) : Tm := (l[i]?).getD ⟨ByteArray.empty, noFl⟩
def okAt (l : List Tm) (i : Nat) : Bool := userT (tmAt l i).user && (decide (i = 0) || ltS (tmAt l (i - 1)).user (tmAt l i).user)
def listMay (l : List Tm) : Bool := (List.range l.length).all (okAt l) && decide (l.length ≤ 16)
structure En where
  dir : Int
  id : Nat
  name : ByteArray
  deriving DecidableEq
def En.key (e : En) : Int × ByteArray := (e.dir, e.name)
def mLook {κ υ : Type} [DecidableEq κ] : List (κ × υ) → κ → Option υ
  | [], _ => none
  | (k, v) :: l, x => if k = x then some v else mLook l x
def mPut {κ υ : Type} [DecidableEq κ] : List (κ × υ) → κ → υ → List (κ × υ)
  | [], x, y => [(x, y)]
  | (k, v) :: l, x, y => if k = x then (x, y) :: l else (k, v) :: mPut l x y
structure Hi where
  B : List Bn
  L : List En
  D : List Bool
def newHi : Hi := ⟨[], [], [true]⟩
namespace Hi
variable (T : Hi)
def is (d : Int) : Bool := decide (0 ≤ d) && (T.D[d.toNat]? == some true)
def br (i : Nat) : Bn := (T.B[i]?).getD noBn
def getF (k : Int × ByteArray) : Option Nat := (T.L.find? fun e => decide (e.key = k)).map (·.id)
abbrev get (d : Int) (n : ByteArray) : Option Nat := T.getF (d, n)
def isSeg (u : Int) (i : Nat) : Bool := decide ((T.br i).kind = 1) && decide ((T.br i).uid = u)
def seg (u : Int) : Option Nat := (T.L.find? fun e => T.isSeg u e.id).map (·.id)
def count (d : Int) : Nat := T.L.countP fun e => decide (e.dir = d)
def dirF (d : Int) : Option Int := if T.is d = true then some (T.count d : Int) else none
def many (i : Nat) : Nat := T.L.countP fun e => decide (e.id = i)
def cleanE (b : Bn) : Int :=
  if b.kind = 1 then (if b.uid < 1 ∨ listMay b.acl = false ∨ bkMay b.b = false then 1 else if (T.seg b.uid).isSome then 5 else 0)
  else if b.kind = 2 then 0
  else if b.kind = 3 then (if (split b.link).isSome then 0 else 3)
  else 15
def clean (b : Bn) : Bn :=
  if b.kind = 1 then ⟨1, b.uid, 0, ByteArray.empty, b.object, b.acl, b.b⟩
  else if b.kind = 2 then ⟨2, 0, T.D.length, ByteArray.empty, false, [], noBk⟩
  else ⟨3, 0, 0, b.link, false, [], noBk⟩
def why (d : Int) (n : ByteArray) (b : Bn) : Int :=
  if T.is d = false then 4 else if mayN n = false then 3 else if (T.get d n).isSome then 5 else T.cleanE b
def added (d : Int) (n : ByteArray) (b : Bn) : Hi := ⟨T.B ++ [T.clean b], T.L ++ [⟨d, T.B.length, n⟩], if b.kind = 2 then T.D ++ [true] else T.D⟩
def add (d : Int) (n : ByteArray) (b : Bn) : Hi × Int × Int :=
  if T.why d n b = 0 then (T.added d n b, (T.clean b).dir, 0) else (T, 0, T.why d n b)
def look (d : Int) (n : ByteArray) : Option Bn := (T.get d n).map T.br
def named (d : Int) (m : ByteArray) (i : Nat) : Hi := { T with L := T.L ++ [⟨d, i, m⟩] }
def name (d : Int) (n m : ByteArray) : Hi × Int :=
  match T.get d n with
  | none => (T, 4)
  | some i => if mayN m = false then (T, 3) else if (T.get d m).isSome then (T, 5) else (T.named d m i, 0)
def taken (d : Int) (n : ByteArray) : Hi := { T with L := T.L.filter fun e => !decide (e.key = (d, n)) }
def gone (i : Nat) : Hi := { T with L := T.L.filter (fun e => !decide (e.id = i)), D := if (T.br i).kind = 2 then T.D.set (T.br i).dir.toNat false else T.D }
def delete (d : Int) (n : ByteArray) : Hi × Bn × Int :=
  match T.get d n with
  | none => (T, noBn, 4)
  | some i => if (T.br i).kind = 2 ∧ 0 < T.count (T.br i).dir then (T, noBn, 16) else (T.gone i, T.br i, 0)
def byUID (u : Int) : Option Bn := (T.seg u).map T.br
def setB (i : Nat) (b : Bn) : Hi := { T with B := T.B.set i b }
def access (d : Int) (n : ByteArray) (l : List Tm) : Hi × Int :=
  match T.get d n with
  | none => (T, 4)
  | some i => if (T.br i).kind ≠ 1 then (T, 15) else if listMay l = false then (T, 1) else (T.setB i { T.br i with acl := l }, 0)
structure Ok : Prop where
  ids : ∀ e ∈ T.L, e.id < T.B.length
  keys : (T.L.map En.key).Nodup
  dirs : ∀ e ∈ T.L, T.is e.dir = true
  homes : ∀ a ∈ T.L, ∀ b ∈ T.L, a.id = b.id → a.dir = b.dir
  uids : ∀ a ∈ T.L, ∀ b ∈ T.L, (T.br a.id).kind = 1 → (T.br b.id).kind = 1 → (T.br a.id).uid = (T.br b.id).uid → a.id = b.id
  subs : ∀ e ∈ T.L, (T.br e.id).kind = 2 → 0 < (T.br e.id).dir ∧ (T.br e.id).dir < T.D.length
  few : T.D.length ≤ T.B.length + 1
  root : T.is 0 = true
end Hi
end Go.Con
namespace Go.Ev
open Go Go.Con
set_option linter.unusedSimpArgs false
set_option linter.unusedVariables false
structure KeyOK {κ : Type} [DecidableEq κ] (P : Program) (kt : TypeId) (K : κ → Value) : Prop where
  flat : ∀ x, flat (K x) = true
  chk : ∀ b x, prun P (Instr.checkKey b 10000 kt (K x)) = some ()
  find : ∀ (x : κ) (es : List MapEntry) (l : List (κ × Value)), es.map (fun e => (e.key, e.val)) = l.map (fun p => (K p.1, p.2)) → prun P (Instr.findKey kt (K x) es) = some ((l.findIdx? (fun p => decide (p.1 = x))).bind fun i => (l[i]?).map fun p => (i, p.2))
  same : ∀ x, Instr.sameBits 10000 (K x) (K x) = true
def BornOK (es : List MapEntry) (c : Nat) : Prop := (es.map (·.born)).Nodup ∧ ∀ e ∈ es, e.born < c
theorem BornOK.nil (c : Nat) : BornOK [] c := ⟨by simp, by simp⟩
theorem BornOK.add {es : List MapEntry} {c : Nat} (b : BornOK es c) (k v : Value) : BornOK (es ++ [⟨k, v, c⟩]) (c + 1) := by
  refine ⟨?_, fun e he => ?_⟩
  · rw [List.map_append, List.nodup_append]
    refine ⟨b.1, by simp, fun x hx y hy => ?_⟩
    simp only [List.map_cons, List.map_nil, List.mem_singleton] at hy
    simp only [List.mem_map] at hx
    obtain ⟨e, he, rfl⟩ := hx
    have := b.2 e he
    omega
  · rcases List.mem_append.1 he with h | h
    · have := b.2 e h; omega
    · simp at h; subst h; simp
theorem BornOK.set {es : List MapEntry} {c : Nat} (b : BornOK es c) {i : Nat} {e : MapEntry} (hi : es[i]? = some e) (k v : Value) : BornOK (es.set i { e with key := k, val := v }) c := by
  refine ⟨?_, fun x hx => ?_⟩
  · rw [List.map_set]
    have : (es.map (·.born)).set i e.born = es.map (·.born) := by
      apply List.ext_getElem?
      intro j
      by_cases hj : i = j
      · subst hj
        have hlt : i < es.length := (List.getElem?_eq_some_iff.1 hi).1
        rw [List.getElem?_set_self (by simpa using hlt), List.getElem?_map, hi]; rfl
      · rw [List.getElem?_set_ne hj]
    rw [this]; exact b.1
  · rcases List.mem_or_eq_of_mem_set hx with h | h
    · exact b.2 x h
    · subst h; exact b.2 e (List.mem_of_getElem? hi)
def MapAt {κ υ : Type} (K : κ → Value) (V : υ → Value) (h : Hp) (b : Nat) (l : List (κ × υ)) : Prop := ∃ es c, h.get b = some (.map es c) ∧ es.map (fun e => (e.key, e.val)) = (l.map fun p => (K p.1, V p.2)) ∧ BornOK es c ∧ (l.map (·.1)).Nodup
theorem MapAt.eq {κ υ : Type} {K : κ → Value} {V : υ → Value} {h h' : Hp} {b : Nat} {l : List (κ × υ)} (m : MapAt K V h b l) (e : h'.get b = h.get b) : MapAt K V h' b l := by
  obtain ⟨es, c, h1, h2⟩ := m; exact ⟨es, c, by rw [e]; exact h1, h2⟩
section
variable {κ υ : Type} [DecidableEq κ]
theorem look_find (l : List (κ × υ)) (x : κ) : mLook l x = ((l.findIdx? (fun p => decide (p.1 = x))).bind fun i => (l[i]?).map fun p => p.2) := by
  induction l with
  | nil => rfl
  | cons a l ih =>
    obtain ⟨k, v⟩ := a
    rw [mLook, List.findIdx?_cons]
    by_cases hk : k = x
    · simp [hk]
    · simp only [hk, if_false, decide_false, Bool.false_eq_true, ih]
      cases h : l.findIdx? (fun p => decide (p.1 = x)) with
      | none => simp
      | some i => simp
theorem findIdx_map (V : υ → Value) (l : List (κ × υ)) (x : κ) : (l.map fun p => (p.1, V p.2)).findIdx? (fun p => decide (p.1 = x)) = l.findIdx? (fun p => decide (p.1 = x)) := by
  rw [List.findIdx?_map]; rfl
theorem put_find (l : List (κ × υ)) (x : κ) (y : υ) : mPut l x y = match l.findIdx? (fun p => decide (p.1 = x)) with
    | some i => l.set i (x, y)
    | none => l ++ [(x, y)] := by
  induction l with
  | nil => rfl
  | cons a l ih =>
    obtain ⟨k, v⟩ := a
    rw [mPut, List.findIdx?_cons]
    by_cases hk : k = x
    · simp [hk]
    · simp only [hk, if_false, decide_false, Bool.false_eq_true, ih]
      cases h : l.findIdx? (fun p => decide (p.1 = x)) with
      | none => simp
      | some i => simp
end
section
variable {κ υ : Type} [DecidableEq κ] {P : Program} {t kt et : TypeId} {K : κ → Value} {V : υ → Value} {h : Hp} {b : Nat} {l : List (κ × υ)}
theorem find_at (ok : KeyOK P kt K) {es : List MapEntry} (he : es.map (fun e => (e.key, e.val)) = l.map fun p => (K p.1, V p.2)) (x : κ) :
    prun P (Instr.findKey kt (K x) es) = some ((l.findIdx? (fun p => decide (p.1 = x))).bind fun i => (l[i]?).map fun p => (i, V p.2)) := by
  rw [ok.find x es (l.map fun p => (p.1, V p.2)) (by rw [he, List.map_map]; rfl), findIdx_map]
  congr 1
  congr 1
  funext i
  rw [List.getElem?_map]
  cases l[i]? <;> rfl
theorem lookup_at (ht : tMap P t = some (kt, et)) (ok : KeyOK P kt K) (m : MapAt K V h b l) {z : Value} (hz : tZero P et = some z) (hf : flat z = true) (x : κ) (f : Bool) :
    evLookup P t (.map (some b)) (K x) f h = some (match mLook l x with
      | some v => bif f then .tuple #[V v, .bool true] else V v
      | none => bif f then .tuple #[z, .bool false] else z) := by
  obtain ⟨es, c, hg, he, _⟩ := m
  unfold evLookup
  simp only [ht, Option.bind_some, ok.flat, Bool.not_true, cond_false, mapOf, hg]
  have : prun P (do Instr.checkKey es.isEmpty 10000 kt (K x); Instr.findKey kt (K x) es) = prun P (Instr.findKey kt (K x) es) := by
    rw [prun_bind, ok.chk, Option.bind_some]
  rw [this, find_at ok he, look_find]
  cases hi : l.findIdx? (fun p => decide (p.1 = x)) with
  | none => simp [hz, hf]
  | some i =>
    have hlt : i < l.length := List.findIdx?_eq_some_iff_getElem.1 hi |>.1
    simp [List.getElem?_eq_getElem hlt]
omit [DecidableEq κ] in
theorem keys_set {l : List (κ × υ)} {i : Nat} {x : κ} {y : υ} (h : (l.map (·.1)).Nodup) (hi : l[i]?.map (·.1) = some x) : ((l.set i (x, y)).map (·.1)).Nodup := by
  rw [List.map_set]
  have : (l.map (·.1)).set i x = l.map (·.1) := by
    apply List.ext_getElem?
    intro j
    by_cases hj : i = j
    · subst hj
      rcases hh : l[i]? with _ | p
      · rw [hh] at hi; cases hi
      · have hlt : i < l.length := (List.getElem?_eq_some_iff.1 hh).1
        rw [List.getElem?_set_self (by simpa using hlt), List.getElem?_map, hi]
    · rw [List.getElem?_set_ne hj]
  rw [this]; exact h
theorem update_at (ht : tMap P t = some (kt, et)) (ok : KeyOK P kt K) (m : MapAt K V h b l) (x : κ) (y : υ) :
    ∃ h', evMapUpdate P t (.map (some b)) (K x) (V y) h = some h' ∧ MapAt K V h' b (mPut l x y) ∧ h'.next = h.next ∧ ∀ c, c ≠ b → h'.get c = h.get c := by
  obtain ⟨es, c, hg, he, hb, hn⟩ := m
  unfold evMapUpdate
  simp only [ht, hg, ok.flat, Bool.not_true, cond_false]
  have : prun P (do Instr.checkKey false 10000 kt (K x); Instr.findKey kt (K x) es) = prun P (Instr.findKey kt (K x) es) := by
    rw [prun_bind, ok.chk, Option.bind_some]
  rw [this, find_at ok he, put_find]
  cases hi : l.findIdx? (fun p => decide (p.1 = x)) with
  | none =>
    refine ⟨h.set b (.map (es ++ [⟨K x, V y, c⟩]) (c + 1)), by simp, ⟨_, _, Hp.get_set_self _ _ _, by simp [he], hb.add _ _, ?_⟩, rfl, fun k hk => Hp.get_set_ne hk⟩
    rw [List.map_append, List.nodup_append]
    refine ⟨hn, by simp, fun a ha b' hb' => ?_⟩
    simp only [List.map_cons, List.map_nil, List.mem_singleton] at hb'
    subst hb'
    simp only [List.mem_map] at ha
    obtain ⟨p, hp, rfl⟩ := ha
    have := (List.findIdx?_eq_none_iff.1 hi) p hp
    simpa using this
  | some i =>
    obtain ⟨hlt, h1, _⟩ := List.findIdx?_eq_some_iff_getElem.1 hi
    have hl : es.length = l.length := by have := congrArg List.length he; simpa using this
    have hei : es[i]? = some es[i] := List.getElem?_eq_getElem (by omega)
    have hkey : (es[i]'(by omega)).key = K x := by
      have h2 : (es.map fun e => (e.key, e.val))[i]? = (l.map fun p => (K p.1, V p.2))[i]? := by rw [he]
      rw [List.getElem?_map, List.getElem?_map, hei, List.getElem?_eq_getElem hlt] at h2
      simp only [Option.map_some, Option.some.injEq, Prod.mk.injEq] at h2
      rw [h2.1]
      have := of_decide_eq_true h1
      rw [this]
    refine ⟨h.set b (.map (es.set i { es[i]'(by omega) with key := K x, val := V y }) c), ?_, ⟨_, _, Hp.get_set_self _ _ _, ?_, hb.set hei _ _, ?_⟩, rfl, fun k hk => Hp.get_set_ne hk⟩
    · simp only [Option.bind_some, List.getElem?_eq_getElem hlt, Option.map_some, hei, hkey, ok.same, cond_true]
    · rw [List.map_set, he, List.map_set]
    · refine keys_set hn ?_
      rw [List.getElem?_eq_getElem hlt]
      exact congrArg some (of_decide_eq_true h1)
end
section
variable {κ υ : Type} [DecidableEq κ]
def upd (f : κ → Option υ) (x : κ) (y : Option υ) : κ → Option υ := fun z => if z = x then y else f z
theorem upd_self (f : κ → Option υ) (x : κ) (y : Option υ) : upd f x y x = y := if_pos rfl
theorem upd_ne (f : κ → Option υ) {x z : κ} (y : Option υ) (h : z ≠ x) : upd f x y z = f z := if_neg h
theorem look_put (x : κ) (y : υ) : ∀ (l : List (κ × υ)) (z : κ), mLook (mPut l x y) z = if z = x then some y else mLook l z
  | [], z => by
    simp only [mPut, mLook]
    by_cases h : x = z
    · simp [h]
    · simp [h, Ne.symm h]
  | (k, v) :: l, z => by
    unfold mPut
    by_cases hk : k = x
    · subst hk
      simp only [if_true, mLook]
      by_cases h : k = z
      · simp [h]
      · simp [h, Ne.symm h]
    · simp only [hk, if_false, mLook]
      by_cases h : k = z
      · subst h; simp [hk]
      · simp only [h, if_false]; exact look_put x y l z
def MapIs (K : κ → Value) (V : υ → Value) (h : Hp) (b : Nat) (f : κ → Option υ) : Prop := ∃ l, MapAt K V h b l ∧ ∀ x, mLook l x = f x
variable {P : Program} {t kt et : TypeId} {K : κ → Value} {V : υ → Value} {h h' : Hp} {b : Nat} {f : κ → Option υ}
theorem MapIs.eq (m : MapIs K V h b f) (e : h'.get b = h.get b) : MapIs K V h' b f := by
  obtain ⟨l, h1, h2⟩ := m; exact ⟨l, h1.eq e, h2⟩
theorem MapIs.get (m : MapIs K V h b f) : ∃ es c, h.get b = some (.map es c) := by
  obtain ⟨l, ⟨es, c, h1, _⟩, _⟩ := m; exact ⟨es, c, h1⟩
theorem MapIs.new (h : Hp) (K : κ → Value) (V : υ → Value) : MapIs K V (h.push (.map [] 0)) h.next (fun _ => none) :=
  ⟨[], ⟨[], 0, Hp.get_push_self _ _, rfl, .nil _, by simp⟩, fun _ => rfl⟩
theorem MapIs.look (m : MapIs K V h b f) (ht : tMap P t = some (kt, et)) (ok : KeyOK P kt K) {z : Value} (hz : tZero P et = some z) (hf : flat z = true) (x : κ) (fl : Bool) :
    evLookup P t (.map (some b)) (K x) fl h = some (match f x with
      | some v => bif fl then .tuple #[V v, .bool true] else V v
      | none => bif fl then .tuple #[z, .bool false] else z) := by
  obtain ⟨l, h1, h2⟩ := m
  rw [lookup_at ht ok h1 hz hf, h2]
theorem MapIs.put (m : MapIs K V h b f) (ht : tMap P t = some (kt, et)) (ok : KeyOK P kt K) (x : κ) (y : υ) :
    ∃ h', evMapUpdate P t (.map (some b)) (K x) (V y) h = some h' ∧ MapIs K V h' b (upd f x (some y)) ∧ h'.next = h.next ∧ ∀ c, c ≠ b → h'.get c = h.get c := by
  obtain ⟨l, h1, h2⟩ := m
  obtain ⟨h', e1, e2, e3, e4⟩ := update_at ht ok h1 x y
  refine ⟨h', e1, ⟨_, e2, fun z => ?_⟩, e3, e4⟩
  rw [look_put, h2]; rfl
end
def keyI (n : Int) : Value := .int .i64 n
theorem findNow_int (k : IntKind) (x : Int) : ∀ (es : List MapEntry) (l : List (Int × Value)) (i : Nat), es.map (fun e => (e.key, e.val)) = l.map (fun p => (keyI p.1, p.2)) →
    Instr.findNow (.int k) (keyI x) es i = some ((l.findIdx? (fun p => decide (p.1 = x))).bind fun j => (l[j]?).map fun p => (i + j, p.2))
  | [], [], i, _ => rfl
  | [], _ :: _, i, h => by simp at h
  | _ :: _, [], i, h => by simp at h
  | e :: es, p :: l, i, h => by
    simp only [List.map_cons, List.cons.injEq, Prod.mk.injEq] at h
    obtain ⟨⟨h1, h2⟩, h3⟩ := h
    have ih := findNow_int k x es l (i + 1) h3
    unfold Instr.findNow
    have hs : Instr.sameNow (.int k) (keyI x) e.key = some (x == p.1) := by rw [h1]; simp [Instr.sameNow, keyI]
    rw [hs, List.findIdx?_cons]
    by_cases hk : p.1 = x
    · have : (x == p.1) = true := by simp [hk]
      rw [this]; simp [hk, h2]
    · have : (x == p.1) = false := by simp; exact fun e => hk e.symm
      rw [this]
      simp only [ih, hk, decide_false, Bool.false_eq_true, if_false]
      cases hf : l.findIdx? (fun p => decide (p.1 = x)) with
      | none => simp
      | some j => simp only [Option.bind_some, Option.map_some, List.getElem?_cons_succ]; rw [show i + 1 + j = i + (j + 1) by omega]
theorem prun_underlying {P : Program} {t : TypeId} {d : TypeDesc} (ht : P.underlying t = some d) : prun P (Go.underlying t) = some d := by
  unfold Go.underlying
  rw [prun_bind]
  have : prun P Go.program = some P := rfl
  rw [this, Option.bind_some, ht]
  rfl
theorem keyI_ok {P : Program} {kt : TypeId} (ht : P.underlying kt = some (.int .i64)) : KeyOK P kt keyI := by
  have hu := prun_underlying ht
  refine ⟨fun x => rfl, fun b x => ?_, fun x es l he => ?_, fun x => ?_⟩
  · unfold Instr.checkKey
    rw [prun_bind, hu, Option.bind_some]
    rfl
  · unfold Instr.findKey
    rw [prun_bind, hu, Option.bind_some, findNow_int .i64 x es l 0 he]
    simp only [Nat.zero_add]
    rfl
  · simp [Instr.sameBits, keyI]
theorem findNow_struct (fs : Array Field) (k : Value) (e : MapEntry) (es : List MapEntry) (i : Nat) : Instr.findNow (.struct fs) k (e :: es) i = none := by
  unfold Instr.findNow; rfl
theorem findAsking_at {κ : Type} [DecidableEq κ] {P : Program} {kt : TypeId} {K : κ → Value} (HE : ∀ x y, prun P (Op.equal kt (K x) (K y)) = some (decide (x = y))) (x : κ) :
    ∀ (es : List MapEntry) (l : List (κ × Value)) (i : Nat), es.map (fun e => (e.key, e.val)) = l.map (fun p => (K p.1, p.2)) →
    prun P (Instr.findAsking kt (K x) es i) = some ((l.findIdx? (fun p => decide (p.1 = x))).bind fun j => (l[j]?).map fun p => (i + j, p.2))
  | [], [], i, _ => rfl
  | [], _ :: _, i, h => by simp at h
  | _ :: _, [], i, h => by simp at h
  | e :: es, p :: l, i, h => by
    simp only [List.map_cons, List.cons.injEq, Prod.mk.injEq] at h
    obtain ⟨⟨h1, h2⟩, h3⟩ := h
    have ih := findAsking_at HE x es l (i + 1) h3
    unfold Instr.findAsking
    rw [prun_bind, h1, HE, Option.bind_some, List.findIdx?_cons]
    by_cases hk : p.1 = x
    · have : x = p.1 := hk.symm
      simp only [this, decide_true, if_true, h2]
      simp; rfl
    · have : ¬ x = p.1 := fun e => hk e.symm
      simp only [this, decide_false, Bool.false_eq_true, if_false, ih, hk]
      cases hf : l.findIdx? (fun p => decide (p.1 = x)) with
      | none => simp
      | some j => simp only [Option.bind_some, Option.map_some, List.getElem?_cons_succ]; rw [show i + 1 + j = i + (j + 1) by omega]
theorem keyStruct_ok {κ : Type} [DecidableEq κ] {P : Program} {kt : TypeId} {K : κ → Value} {fs : Array Field} (ht : P.underlying kt = some (.struct fs)) (hf : ∀ x, flat (K x) = true) (hc : ∀ b x, prun P (Instr.checkKey b 10000 kt (K x)) = some ())
    (HE : ∀ x y, prun P (Op.equal kt (K x) (K y)) = some (decide (x = y))) (hs : ∀ x, Instr.sameBits 10000 (K x) (K x) = true) : KeyOK P kt K := by
  have hu := prun_underlying ht
  refine ⟨hf, hc, fun x es l he => ?_, hs⟩
  unfold Instr.findKey
  rw [prun_bind, hu, Option.bind_some]
  cases es with
  | nil =>
    cases l with
    | nil => rfl
    | cons p l => simp at he
  | cons e es =>
    rw [findNow_struct]
    have := findAsking_at HE x (e :: es) l 0 he
    simpa only [Nat.zero_add] using this
end Go.Ev
namespace Go.Ev
open Go
set_option linter.unusedSimpArgs false
set_option linter.unusedVariables false
theorem row_push {h : Hp} {o : Ob} {c : Nat} : rowOf (h.push o) c = if c = h.next then rowOb (some o) else rowOf h c := by
  rw [rowOf_def, Hp.get_push]; split <;> rfl
theorem row_set {h : Hp} {o : Ob} {b c : Nat} : rowOf (h.set b o) c = if c = b then rowOb (some o) else rowOf h c := by
  rw [rowOf_def, Hp.get_set]; split <;> rfl
theorem wrOb_0 {h : Hp} {b o : Nat} {vs cs : List Value} {e : TypeId} : wrOb h b o vs (some (.row cs e (.rw 0 []))) = bif decide (o + vs.length ≤ cs.length) && vs.all isCell then some (h.set b (.row (splice cs o vs) e (.rw 0 []))) else none := by
  simp only [wrOb, Nat.zero_le, decide_true, cond_true]
theorem splice_eq {cs vs : List Value} {o : Nat} : splice cs o vs = cs.take o ++ vs ++ cs.drop (o + vs.length) := rfl
theorem aggAt_def {o n : Nat} {cs : List Value} : aggAt o n cs = bif decide (o + n ≤ cs.length) then some (.agg ((cs.drop o).take n).toArray) else none := rfl
theorem evh : type_of% @row_push ∧ type_of% @row_set ∧ type_of% @Hp.get_push ∧ type_of% @Hp.get_set ∧ type_of% @Hp.next_push ∧ type_of% @Hp.next_set ∧ type_of% @writeAt_def ∧ type_of% @wrOb_0 ∧ type_of% @splice_eq ∧ type_of% @aggAt_def ∧ type_of% @cells_agg ∧ type_of% @cells_bool ∧ type_of% @cells_int ∧ type_of% @cells_string ∧ type_of% @cells_pointer ∧ type_of% @cells_slice ∧ type_of% @cells_map ∧
    type_of% @isCell_bool ∧ type_of% @isCell_int ∧ type_of% @isCell_string ∧ type_of% @isCell_pointer ∧ type_of% @isCell_slice ∧ type_of% @isCell_map :=
  ⟨@row_push, @row_set, @Hp.get_push, @Hp.get_set, @Hp.next_push, @Hp.next_set, @writeAt_def, @wrOb_0, @splice_eq, @aggAt_def, @cells_agg, @cells_bool, @cells_int, @cells_string, @cells_pointer, @cells_slice, @cells_map, @isCell_bool, @isCell_int, @isCell_string, @isCell_pointer, @isCell_slice, @isCell_map⟩
end Go.Ev
namespace Go.Ev
open Go
set_option linter.unusedSimpArgs false
set_option linter.unusedVariables false
def Chg (F : Nat → Prop) (h h' : Hp) : Prop := h.next ≤ h'.next ∧ ∀ b, b < h.next → ¬ F b → h'.get b = h.get b
theorem Chg.refl (F : Nat → Prop) (h : Hp) : Chg F h h := ⟨Nat.le_refl _, fun _ _ _ => rfl⟩
theorem Chg.trans {F G : Nat → Prop} {a b c : Hp} (x : Chg F a b) (y : Chg G b c) (s : ∀ k, G k → F k ∨ a.next ≤ k) : Chg F a c :=
  ⟨Nat.le_trans x.1 y.1, fun k hk hf => (y.2 k (Nat.lt_of_lt_of_le hk x.1) fun hg => (s k hg).elim hf (by omega)).trans (x.2 k hk hf)⟩
theorem Chg.mono {F G : Nat → Prop} {a b : Hp} (x : Chg F a b) (s : ∀ k, F k → G k) : Chg G a b := ⟨x.1, fun k hk hf => x.2 k hk fun h => hf (s k h)⟩
theorem Chg.keep {a b : Hp} (x : Chg (fun _ => False) a b) : Keep a b := ⟨x.1, fun k hk => x.2 k hk id⟩
theorem Chg.set {F : Nat → Prop} {a b : Hp} (x : Chg F a b) {c : Nat} {o : Ob} (hc : F c ∨ a.next ≤ c) : Chg F a (b.set c o) :=
  ⟨x.1, fun k hk hf => by rw [Hp.get_set_ne (by rintro rfl; exact hc.elim hf (by omega))]; exact x.2 k hk hf⟩
theorem Chg.push {F : Nat → Prop} {a b : Hp} (x : Chg F a b) (o : Ob) : Chg F a (b.push o) :=
  ⟨Nat.le_succ_of_le x.1, fun k hk hf => by rw [Hp.get_push_lt (Nat.lt_of_lt_of_le hk x.1)]; exact x.2 k hk hf⟩
theorem Chg.one {F : Nat → Prop} {a b c : Hp} {k : Nat} (x : Chg F a b) (hn : c.next = b.next) (hs : ∀ j, j ≠ k → c.get j = b.get j) (hk : F k ∨ a.next ≤ k) : Chg F a c :=
  ⟨by rw [hn]; exact x.1, fun j hj hf => by rw [hs j (by rintro rfl; exact hk.elim hf (by omega))]; exact x.2 j hj hf⟩
def Same (e : TypeId) (h h' : Hp) : Prop := h.next ≤ h'.next ∧ ∀ b cs st, b < h.next → h.get b = some (.row cs e st) → h'.get b = some (.row cs e st)
theorem Same.refl (e : TypeId) (h : Hp) : Same e h h := ⟨Nat.le_refl _, fun _ _ _ _ g => g⟩
theorem Same.trans {e : TypeId} {a b c : Hp} (x : Same e a b) (y : Same e b c) : Same e a c := ⟨Nat.le_trans x.1 y.1, fun k cs st hk g => y.2 k cs st (Nat.lt_of_lt_of_le hk x.1) (x.2 k cs st hk g)⟩
def noRow (e : TypeId) : Option Ob → Prop
  | some (.row _ e' _) => e' ≠ e
  | _ => True
theorem Same.set {e : TypeId} {h : Hp} {b : Nat} {o : Ob} (n : noRow e (h.get b)) : Same e h (h.set b o) := ⟨Nat.le_refl _, fun c cs st _ g => by
  rw [Hp.get_set_ne (by rintro rfl; rw [g] at n; exact n rfl)]; exact g⟩
theorem Same.one {e : TypeId} {h h' : Hp} {b : Nat} (n : noRow e (h.get b)) (hn : h.next ≤ h'.next) (hs : ∀ j, j < h.next → j ≠ b → h'.get j = h.get j) : Same e h h' := ⟨hn, fun c cs st hc g => by
  rw [hs c hc (by rintro rfl; rw [g] at n; exact n rfl)]; exact g⟩
theorem Same.keep {e : TypeId} {h h' : Hp} (k : Keep h h') : Same e h h' := ⟨k.1, fun c cs st hc g => by rw [k.2 c hc]; exact g⟩
def SlTy (h : Hp) (F : Nat → Prop) (e n : Nat) (v : Value) (cs : List Value) : Prop :=
  (v = .slice none 0 0 ∧ cs = []) ∨ ∃ b o k c all st, v = .slice (some ⟨b, o, none⟩) k c ∧ k ≤ c / 2 ∧ F b ∧ b < h.next ∧ h.get b = some (.row all e st) ∧ notDead st ∧ cs.length = k * n ∧ (all.drop o).take (k * n) = cs
theorem SlTy.slAt {h : Hp} {F : Nat → Prop} {e n : Nat} {v : Value} {cs : List Value} (s : SlTy h F e n v cs) : SlAt h n v cs := by
  rcases s with s | ⟨b, o, k, c, all, st, h1, h2, _, h3, h4, h5, h6, h7⟩
  · exact .inl s
  · exact .inr ⟨b, o, k, c, all, h1, h2, h3, rowOf_get h4 h5, h6, h7⟩
theorem SlTy.isCell {h : Hp} {F : Nat → Prop} {e n : Nat} {v : Value} {cs : List Value} (s : SlTy h F e n v cs) : isCell v = true := by
  rcases s with ⟨rfl, _⟩ | ⟨b, o, k, c, all, st, rfl, _⟩ <;> rfl
theorem SlTy.cellsV {h : Hp} {F : Nat → Prop} {e n : Nat} {v : Value} {cs : List Value} (s : SlTy h F e n v cs) : v.cells = #[v] := by
  rcases s with ⟨rfl, _⟩ | ⟨b, o, k, c, all, st, rfl, _⟩ <;> rfl
theorem SlTy.same {h h' : Hp} {F G : Nat → Prop} {e n : Nat} {v : Value} {cs : List Value} (s : SlTy h F e n v cs) (x : Same e h h') (hg : ∀ k, F k → G k) : SlTy h' G e n v cs := by
  rcases s with s | ⟨b, o, k, c, all, st, h1, h2, hF, h3, h4, h5⟩
  · exact .inl s
  · exact .inr ⟨b, o, k, c, all, st, h1, h2, hg _ hF, Nat.lt_of_lt_of_le h3 x.1, x.2 b all st h3 h4, h5⟩
theorem append_zero {P : Program} {t e n by_ : Nat} {z : Value} (h1 : tSliceElem P t = some e) (h2 : tSize P e = some n) (h3 : tBytes P e = some by_) (h4 : tZero P e = some z) (h5 : (flat z && Nat.beq z.cells.size n) = true)
    {b : Nat} {h : Hp} {x : Value} {new : List Value} {j : Nat} (hx : lenOf x = some j) (hc : evCells n j x h = some new) (hl : new.length = j * n) (hcell : new.all isCell = true) (hbig : (2 * j + 1024) * (by_ + 1) ≤ 2 ^ 47) :
    evAppend P t (.slice (some ⟨b, 0, none⟩) 0 (2 * 0)) x h = some (bif j == 0 then (.slice (some ⟨b, 0, none⟩) 0 (2 * 0), h) else (.slice (some ⟨h.next, 0, none⟩) j (2 * j + 1), h.push (.row new e (.rw 0 [])))) := by
  simp only [Bool.and_eq_true] at h5
  have h6 : (z.cells.size == n) = true := by have := Nat.eq_of_beq_eq_true h5.2; simpa using this
  have hnl : Nat.beq new.length (j * n) = true := by rw [hl]; simp
  unfold evAppend
  simp only [h1, h2, h3, h4, hx, Option.bind_some, h6, h5.1, Bool.and_self, Bool.not_true, cond_false]
  cases hj : (j == 0) with
  | true => simp
  | false =>
    have hj0 : j ≠ 0 := by simpa using hj
    have hd : decide (0 + j ≤ 2 * 0 / 2) = false := by simp; omega
    have hb : decide ((2 * (0 + j) + 1024) * (by_ + 1) ≤ 2 ^ 47) = true := by rw [Nat.zero_add]; exact decide_eq_true hbig
    simp only [cond_false, hc, Option.bind_some, hcell, hb, hnl, Bool.and_self, Bool.not_true, Bool.or_self, hd]
    simp [evCells]
end Go.Ev
namespace Go.Ev
open Go
set_option linter.unusedSimpArgs false
set_option linter.unusedVariables false
theorem mkRow_eq (e len : Nat) (cs : List Value) : mkRow e len cs = (.row cs e (.rw 0 []), fun b => .slice (some ⟨b, 0, none⟩) len (2 * len)) := rfl
theorem ofList_nil {α : Type} (k : Nat) (t : Tr α) : Tr.ofList [] k t = t := rfl
theorem ofList_cons {α : Type} (a : α) (l : List α) (k : Nat) (t : Tr α) : Tr.ofList (a :: l) k t = Tr.ofList l (k + 1) (t.set k a) := rfl
theorem slotAt_eq (ops : Array Oper) (j : Nat) : slotAt ops j = (ops[j]?).bind (·.dst) := rfl
theorem evq : type_of% @P_make ∧ type_of% @kMk_eq ∧ type_of% @kMk2_eq ∧ type_of% @and_true ∧ type_of% @true_and ∧ type_of% @decide_true ∧ type_of% @decide_false ∧ type_of% @Nat.zero_add ∧ type_of% @Nat.add_zero ∧ type_of% @Nat.mul_one ∧ type_of% @Int.toNat_natCast ∧ type_of% @Option.bind_some.{0, 0} ∧ type_of% @Option.map_some.{0, 0} ∧ type_of% @onSome_some ∧ type_of% @Tr.get_set ∧ type_of% @evBin_lss ∧ type_of% @evBin_gtr ∧ type_of% @evBin_leq ∧ type_of% @evBin_geq ∧ type_of% @evBin_eql ∧ type_of% @evBin_neq ∧ type_of% @evBin_add ∧ type_of% @evBin_sub ∧ type_of% @evBin_eqS ∧ type_of% @evBin_neS ∧ type_of% @L_slice ∧ type_of% @Bool.not_true ∧ type_of% @Bool.not_false ∧ type_of% @List.getElem?_toArray.{0} ∧ type_of% @List.getElem?_cons_succ.{0} ∧ type_of% @List.getElem?_cons_zero.{0} ∧ type_of% @cellAt_eq ∧ type_of% @rowOb_rw ∧ type_of% @rowOb_ro ∧ type_of% @opt_none ∧ type_of% @opt_some ∧ type_of% @List.append_eq.{0} ∧ type_of% @List.cons_append.{0} ∧ type_of% @List.nil_append.{0} ∧ type_of% @mkRow_eq ∧ type_of% @ofList_nil ∧ type_of% @ofList_cons ∧ type_of% @slotAt_eq :=
  ⟨@P_make, @kMk_eq, @kMk2_eq, @and_true, @true_and, @decide_true, @decide_false, @Nat.zero_add, @Nat.add_zero, @Nat.mul_one, @Int.toNat_natCast, @Option.bind_some.{0, 0}, @Option.map_some.{0, 0}, @onSome_some, @Tr.get_set, @evBin_lss, @evBin_gtr, @evBin_leq, @evBin_geq, @evBin_eql, @evBin_neq, @evBin_add, @evBin_sub, @evBin_eqS, @evBin_neS, @L_slice, @Bool.not_true, @Bool.not_false, @List.getElem?_toArray.{0}, @List.getElem?_cons_succ.{0}, @List.getElem?_cons_zero.{0}, @cellAt_eq, @rowOb_rw, @rowOb_ro, @opt_none, @opt_some, @List.append_eq.{0}, @List.cons_append.{0}, @List.nil_append.{0}, @mkRow_eq, @ofList_nil, @ofList_cons, @slotAt_eq⟩
theorem evp : type_of% @Nat.beq_refl ∧ type_of% @Nat.add_assoc ∧ type_of% @Nat.add_left_cancel_iff ∧ type_of% @Nat.add_eq_left ∧ type_of% @Nat.left_eq_add ∧ type_of% @Nat.one_ne_zero ∧ type_of% @Nat.zero_ne_one ∧ type_of% @List.length_cons.{0} ∧ type_of% @List.length_nil.{0} ∧ type_of% @List.all_cons.{0} ∧ type_of% @List.all_nil.{0} ∧ type_of% @Bool.and_self ∧ type_of% @Bool.and_true ∧ type_of% @Bool.true_and ∧ type_of% @List.take_succ_cons.{0} ∧ type_of% @List.take_zero.{0} ∧ type_of% @List.take_nil.{0} ∧ type_of% @List.drop_succ_cons.{0} ∧ type_of% @List.drop_zero.{0} ∧ type_of% @List.drop_nil.{0} ∧ type_of% @List.append_nil.{0} ∧ type_of% @List.size_toArray.{0} :=
  ⟨@Nat.beq_refl, @Nat.add_assoc, @Nat.add_left_cancel_iff, @Nat.add_eq_left, @Nat.left_eq_add, @Nat.one_ne_zero, @Nat.zero_ne_one, @List.length_cons.{0}, @List.length_nil.{0}, @List.all_cons.{0}, @List.all_nil.{0}, @Bool.and_self, @Bool.and_true, @Bool.true_and, @List.take_succ_cons.{0}, @List.take_zero.{0}, @List.take_nil.{0}, @List.drop_succ_cons.{0}, @List.drop_zero.{0}, @List.drop_nil.{0}, @List.append_nil.{0}, @List.size_toArray.{0}⟩
end Go.Ev
namespace Go.Ev
open Go
set_option linter.unusedSimpArgs false
set_option linter.unusedVariables false
def Gr (G : Nat → Prop) (h : Hp) (v : Value) (e n : Nat) (cs : List Value) : Prop :=
  (∀ k, G k → k < h.next) ∧ ((v = .slice none 0 0 ∧ cs = []) ∨ ∃ b k base olds x, v = .slice (some ⟨b, 0, none⟩) k (2 * k + x) ∧ x ≤ 1 ∧ cs.length = k * n ∧ 1 ≤ k ∧ h.get b = some (.row cs e (.rw base olds)) ∧
    base + n ≤ cs.length ∧ G b ∧ ∀ o ∈ olds, G o)
theorem Gr.nil (h : Hp) (e n : Nat) : Gr (fun _ => False) h (.slice none 0 0) e n [] := ⟨fun _ h => h.elim, .inl ⟨rfl, rfl⟩⟩
theorem Gr.lt {G : Nat → Prop} {h : Hp} {v : Value} {e n : Nat} {cs : List Value} (g : Gr G h v e n cs) {k : Nat} (hk : G k) : k < h.next := g.1 k hk
theorem Gr.slAt {G : Nat → Prop} {h : Hp} {v : Value} {e n : Nat} {cs : List Value} (g : Gr G h v e n cs) : SlAt h n v cs := by
  obtain ⟨gl, g⟩ := g
  rcases g with g | ⟨b, k, base, olds, x, h1, h2, h3, h4, h6, h7, h8, _⟩
  · exact .inl g
  · exact .inr ⟨b, 0, k, 2 * k + x, cs, h1, by omega, gl b h8, rowOf_rw h6, h3, by rw [List.drop_zero, List.take_of_length_le (by omega)]⟩
theorem Gr.keep {G : Nat → Prop} {h h' : Hp} {v : Value} {e n : Nat} {cs : List Value} (g : Gr G h v e n cs) (hn : h.next ≤ h'.next) (hs : ∀ k, G k → h'.get k = h.get k) : Gr G h' v e n cs := by
  obtain ⟨gl, g⟩ := g
  refine ⟨fun k hk => Nat.lt_of_lt_of_le (gl k hk) hn, ?_⟩
  rcases g with g | ⟨b, j, base, olds, x, h1, h2, h3, h4, h6, h7, h8, h9⟩
  · exact .inl g
  · exact .inr ⟨b, j, base, olds, x, h1, h2, h3, h4, by rw [hs b h8]; exact h6, h7, h8, h9⟩
theorem Gr.keeps {G : Nat → Prop} {h h' : Hp} {v : Value} {e n : Nat} {cs : List Value} (g : Gr G h v e n cs) (k : Keep h h') : Gr G h' v e n cs := g.keep k.1 fun j hj => k.2 j (g.1 j hj)
end Go.Ev
namespace Go.Ev
open Go
set_option linter.unusedSimpArgs false
set_option linter.unusedVariables false
variable {C : Ctx}
def maxVs (P : Program) (vs : List Value) : Option Value := bif vs.all scal then prunS P (Builtin.max_ #[] 0 vs.toArray) else none
def kMax (P : Program) (h : Hp) (Q : Value → Hp → Prop) (vs : List Value) : Prop := onSome (maxVs P vs) (at' Q h)
section
variable {d : Option Tmp} {ty : TypeId} {p : String} {af : Array Edge} {g : Option (Nat × Bool)} {fr : Fr} {h : Hp} {Q : Value → Hp → Prop}
theorem P_max {as0 : Array Operand} {ts : Array TypeId} : WpP C ⟨d, .call ⟨.builtin .max, as0, ts⟩, ty, p, af, g⟩ fr h Q = onSome (evs fr as0.toList) (kMax C.P h Q) := by
  rw [propext (WpP_pure (by simp [kindOf]))]
  show onSome _ _ = _
  simp only [evPure, evPureCall, onSome_bind]
  rfl
theorem kMax_two {P : Program} {k : IntKind} {a b : Int} : kMax P h Q [.int k a, .int k b] = Q (.int k (max a b)) h := by
  have : maxVs P [.int k a, .int k b] = some (.int k (if b > a then b else a)) := rfl
  unfold kMax
  rw [this, onSome_some, at_eq]
  congr 2
  by_cases hab : b > a
  · rw [if_pos hab]; omega
  · rw [if_neg hab]; omega
end
end Go.Ev
namespace Go.Ev
open Go Go.RowKit
set_option linter.unusedSimpArgs false
set_option linter.unusedVariables false
theorem EL.born {m : Mp} {es es' : List MapEntry} (h : EL m es es') : es'.map (·.born) = es.map (·.born) := by
  induction h with
  | nil => rfl
  | cons hk hf hv hb t ih => simp [hb, ih]
end Go.Ev
namespace Go.Con
open Go Go.Ev
set_option linter.unusedSimpArgs false
set_option linter.unusedVariables false
namespace Hi
theorem find_none {α : Type} {p : α → Bool} {l : List α} : l.find? p = none ↔ ∀ x ∈ l, p x = false := by
  rw [List.find?_eq_none]; simp
theorem find_congr {α : Type} {p q : α → Bool} : ∀ {l : List α}, (∀ x ∈ l, p x = q x) → l.find? p = l.find? q
  | [], _ => rfl
  | a :: l, h => by
    rw [List.find?_cons, List.find?_cons, h a (by simp), find_congr fun x hx => h x (by simp [hx])]
theorem nodup_inj {α β : Type} {f : α → β} : ∀ {l : List α}, (l.map f).Nodup → ∀ {a b : α}, a ∈ l → b ∈ l → f a = f b → a = b
  | [], _, a, b, ha, _, _ => by cases ha
  | x :: l, h, a, b, ha, hb, e => by
    simp only [List.map_cons, List.nodup_cons, List.mem_map, not_exists, not_and] at h
    rcases List.mem_cons.1 ha with ea | ma <;> rcases List.mem_cons.1 hb with eb | mb
    · rw [ea, eb]
    · exact absurd (e.symm.trans (congrArg f ea)) (h.1 b mb)
    · exact absurd (e.trans (congrArg f eb)) (h.1 a ma)
    · exact nodup_inj h.2 ma mb e
section
variable {T : Hi}
theorem get_none {k : Int × ByteArray} : T.getF k = none ↔ ∀ e ∈ T.L, e.key ≠ k := by
  unfold getF
  rw [Option.map_eq_none_iff, find_none]
  simp
theorem get_some {k : Int × ByteArray} {i : Nat} (h : T.getF k = some i) : ∃ e ∈ T.L, e.key = k ∧ e.id = i := by
  unfold getF at h
  obtain ⟨e, h1, h2⟩ := Option.map_eq_some_iff.1 h
  have h3 := List.find?_some h1
  exact ⟨e, List.mem_of_find?_eq_some h1, of_decide_eq_true h3, h2⟩
theorem Ok.uniq (ok : T.Ok) {a b : En} (ha : a ∈ T.L) (hb : b ∈ T.L) (h : a.key = b.key) : a = b :=
  nodup_inj ok.keys ha hb h
theorem Ok.get_of (ok : T.Ok) {e : En} (h : e ∈ T.L) : T.getF e.key = some e.id := by
  cases hf : T.getF e.key with
  | none => exact absurd rfl (get_none.1 hf e h)
  | some i =>
    obtain ⟨x, h1, h2, h3⟩ := get_some hf
    rw [ok.uniq h1 h h2] at h3
    rw [h3]
theorem seg_none {u : Int} : T.seg u = none ↔ ∀ e ∈ T.L, T.isSeg u e.id = false := by
  unfold seg
  rw [Option.map_eq_none_iff, find_none]
theorem seg_some {u : Int} {i : Nat} (h : T.seg u = some i) : ∃ e ∈ T.L, T.isSeg u e.id = true ∧ e.id = i := by
  unfold seg at h
  obtain ⟨e, h1, h2⟩ := Option.map_eq_some_iff.1 h
  have h3 := List.find?_some h1
  exact ⟨e, List.mem_of_find?_eq_some h1, h3, h2⟩
theorem Ok.seg_of (ok : T.Ok) {e : En} (h : e ∈ T.L) {u : Int} (hu : T.isSeg u e.id = true) : T.seg u = some e.id := by
  cases hf : T.seg u with
  | none => have := seg_none.1 hf e h; rw [hu] at this; cases this
  | some i =>
    obtain ⟨x, h1, h2, h3⟩ := seg_some hf
    simp only [isSeg, Bool.and_eq_true, decide_eq_true_eq] at hu h2
    rw [← h3, ok.uids x h1 e h h2.1 hu.1 (h2.2.trans hu.2.symm)]
theorem Ok.get_lt (ok : T.Ok) {k : Int × ByteArray} {i : Nat} (h : T.getF k = some i) : i < T.B.length := by
  obtain ⟨e, h1, _, rfl⟩ := get_some h; exact ok.ids e h1
theorem Ok.seg_lt (ok : T.Ok) {u : Int} {i : Nat} (h : T.seg u = some i) : i < T.B.length := by
  obtain ⟨e, h1, _, rfl⟩ := seg_some h; exact ok.ids e h1
theorem br_snoc {B : List Bn} {L L' : List En} {D D' : List Bool} {c : Bn} {i : Nat} (h : i < B.length) : (Hi.mk (B ++ [c]) L D).br i = (Hi.mk B L' D').br i := by
  unfold br; rw [List.getElem?_append_left h]
theorem br_new {B : List Bn} {L : List En} {D : List Bool} {c : Bn} : (Hi.mk (B ++ [c]) L D).br B.length = c := by
  unfold br; simp
end
section
variable {B : List Bn} {L : List En} {D : List Bool} {e : En}
theorem getF_snoc (B' : List Bn) (D' : List Bool) (h : (Hi.mk B L D).getF e.key = none) : (Hi.mk B' (L ++ [e]) D').getF = upd (Hi.mk B L D).getF e.key (some e.id) := by
  funext k
  unfold getF upd
  simp only [List.find?_append]
  by_cases hk : k = e.key
  · subst hk
    have : L.find? (fun x => decide (x.key = e.key)) = none := by simpa [getF] using h
    rw [this]; simp
  · rw [if_neg hk]
    have : decide (e.key = k) = false := by simp; exact fun h => hk h.symm
    simp [this]
theorem count_snoc (B' : List Bn) (D' : List Bool) (d : Int) : (Hi.mk B' (L ++ [e]) D').count d = (Hi.mk B L D).count d + if e.dir = d then 1 else 0 := by
  unfold count
  simp only [List.countP_append, List.countP_singleton, decide_eq_true_eq]
theorem many_snoc (B' : List Bn) (D' : List Bool) (i : Nat) : (Hi.mk B' (L ++ [e]) D').many i = (Hi.mk B L D).many i + if e.id = i then 1 else 0 := by
  unfold many
  simp only [List.countP_append, List.countP_singleton, decide_eq_true_eq]
theorem is_snoc (B' : List Bn) (L' : List En) (d : Int) : (Hi.mk B' L' (D ++ [true])).is d = if d = D.length then true else (Hi.mk B L D).is d := by
  unfold is
  by_cases h : d = D.length
  · subst h; simp
  · rw [if_neg h]
    by_cases h0 : 0 ≤ d
    · simp only [h0, decide_true, Bool.true_and]
      by_cases hl : d.toNat < D.length
      · rw [List.getElem?_append_left hl]
      · rw [List.getElem?_append_right (by omega), List.getElem?_eq_none (show D.length ≤ d.toNat by omega)]
        have : d.toNat - D.length ≠ 0 := by omega
        cases hh : d.toNat - D.length with
        | zero => exact absurd hh this
        | succ n => simp
    · simp [h0]
theorem seg_named (h : ∃ x ∈ L, x.id = e.id) : (Hi.mk B (L ++ [e]) D).seg = (Hi.mk B L D).seg := by
  obtain ⟨x, hx, he⟩ := h
  funext u
  unfold seg
  simp only [List.find?_append]
  have hs : ∀ i, (Hi.mk B (L ++ [e]) D).isSeg u i = (Hi.mk B L D).isSeg u i := fun _ => rfl
  simp only [hs]
  cases hf : L.find? (fun x => (Hi.mk B L D).isSeg u x.id) with
  | some y => simp
  | none =>
    have := find_none.1 hf x hx
    rw [he] at this
    simp [this]
theorem seg_added {c : Bn} (ids : ∀ x ∈ L, x.id < B.length) (he : e.id = B.length) (D' : List Bool) (hn : c.kind = 1 → (Hi.mk B L D).seg c.uid = none) :
    (Hi.mk (B ++ [c]) (L ++ [e]) D').seg = if c.kind = 1 then upd (Hi.mk B L D).seg c.uid (some B.length) else (Hi.mk B L D).seg := by
  have hs : ∀ u, ∀ x ∈ L, (Hi.mk (B ++ [c]) (L ++ [e]) D').isSeg u x.id = (Hi.mk B L D).isSeg u x.id := fun u x hx => by
    unfold isSeg; rw [br_snoc (ids x hx)]
  have h1 : ∀ u, (Hi.mk (B ++ [c]) (L ++ [e]) D').isSeg u e.id = (decide (c.kind = 1) && decide (c.uid = u)) := fun u => by
    unfold isSeg; rw [he, br_new]
  funext u
  unfold seg
  simp only [List.find?_append]
  rw [find_congr (hs u)]
  by_cases hk : c.kind = 1
  · rw [if_pos hk]
    unfold upd
    by_cases hu : u = c.uid
    · subst hu
      have : L.find? (fun x => (Hi.mk B L D).isSeg c.uid x.id) = none := by simpa [seg] using hn hk
      rw [this, if_pos rfl]
      have h2 := h1 c.uid
      rw [he] at h2
      simp [h2, hk, he]
    · rw [if_neg hu]
      have : ¬ c.uid = u := fun h => hu h.symm
      simp [h1, this, seg]
  · rw [if_neg hk]
    simp [h1, hk, seg]
end
section
variable {T : Hi}
theorem Ok.get_iff (ok : T.Ok) {k : Int × ByteArray} {i : Nat} : T.getF k = some i ↔ ∃ e ∈ T.L, e.key = k ∧ e.id = i :=
  ⟨get_some, fun ⟨e, h1, h2, h3⟩ => by rw [← h2, ← h3]; exact ok.get_of h1⟩
theorem Ok.seg_iff (ok : T.Ok) {u : Int} {i : Nat} : T.seg u = some i ↔ ∃ e ∈ T.L, T.isSeg u e.id = true ∧ e.id = i :=
  ⟨seg_some, fun ⟨e, h1, h2, h3⟩ => by rw [← h3]; exact ok.seg_of h1 h2⟩
theorem count_le (T : Hi) (d : Int) : T.count d ≤ T.L.length := List.countP_le_length
theorem filter_one {α β : Type} [DecidableEq β] {f : α → β} : ∀ {l : List α}, (l.map f).Nodup → ∀ {a : α}, a ∈ l → l.filter (fun x => decide (f x = f a)) = [a]
  | [], _, a, ha => by cases ha
  | x :: l, h, a, ha => by
    have h0 := h
    simp only [List.map_cons, List.nodup_cons, List.mem_map, not_exists, not_and] at h
    by_cases hx : f x = f a
    · have : x = a := nodup_inj h0 (by simp) ha hx
      subst this
      rw [List.filter_cons_of_pos (by simp)]
      congr 1
      rw [List.filter_eq_nil_iff]
      intro y hy hd
      exact h.1 y hy (of_decide_eq_true hd)
    · have hm : a ∈ l := by
        rcases List.mem_cons.1 ha with rfl | h
        · exact absurd rfl hx
        · exact h
      rw [List.filter_cons_of_neg (by simpa using hx)]
      exact filter_one h.2 hm
theorem countP_split {α : Type} (p q : α → Bool) : ∀ l : List α, l.countP p = (l.filter q).countP p + (l.filter fun x => !q x).countP p
  | [] => rfl
  | a :: l => by
    have ih := countP_split p q l
    cases hq : q a <;> cases hp : p a <;> simp [List.filter_cons, List.countP_cons, hq, hp, ih] <;> omega
theorem Ok.less (ok : T.Ok) (p : En → Bool) : (Hi.mk T.B (T.L.filter p) T.D).Ok where
  ids := fun e he => ok.ids e (List.mem_filter.1 he).1
  keys := (List.filter_sublist.map _).nodup ok.keys
  dirs := fun e he => ok.dirs e (List.mem_filter.1 he).1
  homes := fun a ha b hb => ok.homes a (List.mem_filter.1 ha).1 b (List.mem_filter.1 hb).1
  uids := fun a ha b hb => ok.uids a (List.mem_filter.1 ha).1 b (List.mem_filter.1 hb).1
  subs := fun e he => ok.subs e (List.mem_filter.1 he).1
  few := ok.few
  root := ok.root
theorem Ok.take (ok : T.Ok) {e : En} (he : e ∈ T.L) : (T.taken e.dir e.name).Ok ∧ (T.taken e.dir e.name).getF = upd T.getF e.key none ∧ (∀ d, T.count d = (T.taken e.dir e.name).count d + if e.dir = d then 1 else 0) ∧
    (∀ i, T.many i = (T.taken e.dir e.name).many i + if e.id = i then 1 else 0) := by
  have ok' : (T.taken e.dir e.name).Ok := ok.less _
  have f1 := filter_one (f := En.key) ok.keys he
  refine ⟨ok', ?_, fun d => ?_, fun i => ?_⟩
  · funext k
    unfold upd
    by_cases hk : k = e.key
    · rw [if_pos hk, get_none]
      intro x hx
      have := (List.mem_filter.1 hx).2
      subst hk
      simp only [Bool.not_eq_true', decide_eq_false_iff_not] at this; exact this
    · rw [if_neg hk]
      apply Option.ext
      intro i
      rw [ok'.get_iff, ok.get_iff]
      constructor
      · rintro ⟨x, hx, h1, h2⟩; exact ⟨x, (List.mem_filter.1 hx).1, h1, h2⟩
      · rintro ⟨x, hx, h1, h2⟩
        refine ⟨x, List.mem_filter.2 ⟨hx, ?_⟩, h1, h2⟩
        have : x.key ≠ (e.dir, e.name) := by rw [h1]; exact hk
        simp only [Bool.not_eq_true', decide_eq_false_iff_not]; exact this
  · have := countP_split (fun x : En => decide (x.dir = d)) (fun x => decide (x.key = e.key)) T.L
    unfold count
    rw [this, f1, Nat.add_comm]
    simp only [List.countP_singleton, decide_eq_true_eq]
    rfl
  · have := countP_split (fun x : En => decide (x.id = i)) (fun x => decide (x.key = e.key)) T.L
    unfold many
    rw [this, f1, Nat.add_comm]
    simp only [List.countP_singleton, decide_eq_true_eq]
    rfl
theorem many_pos {i : Nat} : 0 < T.many i ↔ ∃ e ∈ T.L, e.id = i := by
  unfold many; rw [List.countP_pos_iff]; simp
theorem count_pos {d : Int} : 0 < T.count d ↔ ∃ e ∈ T.L, e.dir = d := by
  unfold count; rw [List.countP_pos_iff]; simp
end
section
variable {T : Hi}
theorem newHi_ok : newHi.Ok := ⟨by simp [newHi], by simp [newHi], by simp [newHi], by simp [newHi], by simp [newHi], by simp [newHi], by simp [newHi], by decide⟩
theorem Ok.setB (ok : T.Ok) {i : Nat} {b : Bn} (hk : b.kind = (T.br i).kind) (hu : b.uid = (T.br i).uid) (hd : b.dir = (T.br i).dir) : (T.setB i b).Ok ∧ (T.setB i b).seg = T.seg := by
  have hb : ∀ j, (T.setB i b).br j = if j = i ∧ i < T.B.length then b else T.br j := fun j => by
    unfold Hi.setB br
    by_cases hj : j = i
    · subst hj
      by_cases hl : j < T.B.length
      · simp [hl]
      · simp [hl]
    · rw [List.getElem?_set_ne (Ne.symm hj)]; simp [hj]
  have h1 : ∀ j, ((T.setB i b).br j).kind = (T.br j).kind := fun j => by rw [hb]; split <;> simp_all
  have h2 : ∀ j, ((T.setB i b).br j).uid = (T.br j).uid := fun j => by rw [hb]; split <;> simp_all
  have h3 : ∀ j, ((T.setB i b).br j).dir = (T.br j).dir := fun j => by rw [hb]; split <;> simp_all
  refine ⟨⟨fun e he => ?_, ok.keys, ok.dirs, ok.homes, fun a ha c hc => ?_, fun e he => ?_, ?_, ok.root⟩, ?_⟩
  · have := ok.ids e he; simpa [Hi.setB] using this
  · rw [h1, h1, h2, h2]; exact ok.uids a ha c hc
  · rw [h1, h3]; exact ok.subs e he
  · have := ok.few; simpa [Hi.setB] using this
  · funext u
    unfold seg isSeg
    simp only [h1, h2]
    rfl
theorem Ok.named (ok : T.Ok) {d : Int} {n m : ByteArray} {i : Nat} (hg : T.get d n = some i) (hm : T.get d m = none) : (T.named d m i).Ok ∧ (T.named d m i).seg = T.seg := by
  obtain ⟨e, h1, h2, h3⟩ := get_some hg
  have hd : e.dir = d := congrArg Prod.fst h2
  have mem : ∀ {x}, x ∈ (T.named d m i).L → x ∈ T.L ∨ x = ⟨d, i, m⟩ := fun h => by simpa [Hi.named] using h
  have hi : ∀ {x}, x ∈ (T.named d m i).L → ∃ y ∈ T.L, y.id = x.id ∧ y.dir = x.dir := fun {x} h => by
    rcases mem h with h | rfl
    · exact ⟨x, h, rfl, rfl⟩
    · exact ⟨e, h1, h3, hd⟩
  refine ⟨⟨fun x hx => ?_, ?_, fun x hx => ?_, fun a ha b hb hab => ?_, fun a ha b hb => ?_, fun x hx => ?_, ok.few, ok.root⟩, ?_⟩
  · obtain ⟨y, hy, e1, _⟩ := hi hx; rw [← e1]; exact ok.ids y hy
  · simp only [Hi.named, List.map_append, List.map_cons, List.map_nil, List.nodup_append]
    refine ⟨ok.keys, by simp, fun a ha b hb => ?_⟩
    simp only [List.mem_singleton] at hb
    subst hb
    obtain ⟨x, hx, rfl⟩ := List.mem_map.1 ha
    exact get_none.1 hm x hx
  · obtain ⟨y, hy, _, e2⟩ := hi hx; rw [← e2]; exact ok.dirs y hy
  · obtain ⟨y, hy, e1, e2⟩ := hi ha
    obtain ⟨z, hz, f1, f2⟩ := hi hb
    rw [← e2, ← f2]; exact ok.homes y hy z hz (by rw [e1, f1, hab])
  · obtain ⟨y, hy, e1, e2⟩ := hi ha
    obtain ⟨z, hz, f1, f2⟩ := hi hb
    rw [← e1, ← f1]; exact ok.uids y hy z hz
  · obtain ⟨y, hy, e1, _⟩ := hi hx; rw [← e1]; exact ok.subs y hy
  · exact seg_named ⟨e, h1, h3⟩
theorem Ok.added (ok : T.Ok) {d : Int} {n : ByteArray} {b : Bn} (hw : T.why d n b = 0) : (T.added d n b).Ok := by
  unfold why at hw
  split at hw
  · simp at hw
  rename_i his
  split at hw
  · simp at hw
  split at hw
  · simp at hw
  rename_i hg
  have hg' : T.get d n = none := by cases h : T.get d n <;> simp_all
  have his' : T.is d = true := by simpa using his
  have mem : ∀ {x}, x ∈ (T.added d n b).L → x ∈ T.L ∨ x = ⟨d, T.B.length, n⟩ := fun h => by simpa [Hi.added] using h
  have hbr : ∀ x ∈ T.L, (T.added d n b).br x.id = T.br x.id := fun x hx => br_snoc (ok.ids x hx)
  have hnew : (T.added d n b).br T.B.length = T.clean b := br_new
  have hlen : (T.added d n b).B.length = T.B.length + 1 := by simp [Hi.added]
  have hD : T.D.length ≤ (T.added d n b).D.length := by unfold Hi.added; dsimp only; split <;> simp
  have hisn : ∀ d', T.is d' = true → (T.added d n b).is d' = true := fun d' h => by
    unfold Hi.added
    by_cases hk : b.kind = 2
    · simp only [hk, if_true]
      rw [is_snoc (L := T.L) (B := T.B)]
      split
      · rfl
      · exact h
    · simp only [hk, if_false]; exact h
  have hck : (T.clean b).kind = 1 → b.kind = 1 ∧ (T.clean b).uid = b.uid := fun h => by
    unfold clean at h ⊢
    split at h
    · rename_i hk; exact ⟨hk, by rw [if_pos hk]⟩
    · split at h <;> simp at h
  have hseg : (T.clean b).kind = 1 → T.seg b.uid = none := fun h => by
    have h1 := (hck h).1
    unfold cleanE at hw
    rw [if_pos h1] at hw
    split at hw
    · simp at hw
    · split at hw
      · simp at hw
      · rename_i h2; cases hs : T.seg b.uid <;> simp_all
  refine ⟨fun x hx => ?_, ?_, fun x hx => ?_, fun a ha c hc hac => ?_, fun a ha c hc ka kc hu => ?_, fun x hx hk => ?_, ?_, ?_⟩
  · rcases mem hx with h | rfl
    · have := ok.ids x h; omega
    · simp [hlen]
  · simp only [Hi.added, List.map_append, List.map_cons, List.map_nil, List.nodup_append]
    refine ⟨ok.keys, by simp, fun a ha c hc => ?_⟩
    simp only [List.mem_singleton] at hc
    subst hc
    obtain ⟨x, hx, rfl⟩ := List.mem_map.1 ha
    exact get_none.1 hg' x hx
  · rcases mem hx with h | rfl
    · exact hisn _ (ok.dirs x h)
    · exact hisn _ his'
  · rcases mem ha with h1 | rfl <;> rcases mem hc with h2 | rfl
    · exact ok.homes a h1 c h2 hac
    · have := ok.ids a h1; simp at hac; omega
    · have := ok.ids c h2; simp at hac; omega
    · rfl
  · rcases mem ha with h1 | rfl <;> rcases mem hc with h2 | rfl
    · rw [hbr a h1] at ka hu; rw [hbr c h2] at kc hu; exact ok.uids a h1 c h2 ka kc hu
    · rw [hbr a h1] at ka hu
      simp only [hnew] at kc hu
      have := seg_none.1 (hseg kc) a h1
      rw [(hck kc).2] at hu
      simp [isSeg, ka, hu] at this
    · rw [hbr c h2] at kc hu
      simp only [hnew] at ka hu
      have := seg_none.1 (hseg ka) c h2
      rw [(hck ka).2] at hu
      simp [isSeg, kc, ← hu] at this
    · rfl
  · rcases mem hx with h | rfl
    · rw [hbr x h] at hk ⊢
      have := ok.subs x h hk
      omega
    · simp only [hnew] at hk ⊢
      have hb : b.kind = 2 := by
        unfold clean at hk
        split at hk
        · simp at hk
        · split at hk
          · assumption
          · simp at hk
      have h0 : T.D.length ≠ 0 := fun h0 => by
        have := ok.root
        unfold is at this
        rw [List.length_eq_zero_iff.1 h0] at this
        simp at this
      unfold clean Hi.added
      simp only [hb, if_true, show ¬ (2 : Int) = 1 by decide, if_false, List.length_append, List.length_singleton]
      omega
  · have := ok.few
    rw [hlen]
    unfold Hi.added; dsimp only
    split
    · simp; omega
    · omega
  · exact hisn _ ok.root
end
end Hi
end Go.Con
namespace Go.Con
open Go Go.Ev
set_option linter.unusedSimpArgs false
set_option linter.unusedVariables false
namespace Hi
variable {T : Hi}
def memB (S : List ByteArray) (x : ByteArray) : Bool := S.any fun y => decide (y = x)
def part (T : Hi) (i : Nat) (S : List ByteArray) : Hi := { T with L := T.L.filter fun e => !(decide (e.id = i) && memB S e.name) }
theorem Ok.part (ok : T.Ok) (i : Nat) (S : List ByteArray) : (T.part i S).Ok := ok.less _
theorem is_set {B : List Bn} {L : List En} {x : Int} (hx : 0 ≤ x) (d : Int) : (Hi.mk B L (T.D.set x.toNat false)).is d = if d = x then false else T.is d := by
  unfold is
  by_cases h : d = x
  · subst h
    rw [if_pos rfl]
    by_cases hl : d.toNat < T.D.length
    · simp [hl]
    · simp [List.getElem?_eq_none (show (T.D.set d.toNat false).length ≤ d.toNat by simp; omega)]
  · rw [if_neg h]
    by_cases h0 : 0 ≤ d
    · rw [List.getElem?_set_ne (by omega)]
    · simp [h0]
theorem Ok.gone (ok : T.Ok) {d : Int} {n : ByteArray} {i : Nat} (hg : T.get d n = some i) (hc : (T.br i).kind = 2 → T.count (T.br i).dir = 0) : (T.gone i).Ok ∧ (T.gone i).getF = (Hi.mk T.B (T.L.filter fun e => !decide (e.id = i)) T.D).getF ∧
    (T.gone i).seg = (if (T.br i).kind = 1 then upd T.seg (T.br i).uid none else T.seg) ∧
    (T.gone i).dirF = (if (T.br i).kind = 2 then upd (Hi.mk T.B (T.L.filter fun e => !decide (e.id = i)) T.D).dirF (T.br i).dir none else (Hi.mk T.B (T.L.filter fun e => !decide (e.id = i)) T.D).dirF) := by
  obtain ⟨e0, h1, h2, h3⟩ := get_some hg
  have hsub := ok.subs e0 h1
  rw [h3] at hsub
  have base := ok.less fun e => !decide (e.id = i)
  have hx : ∀ d', (T.gone i).is d' = if (T.br i).kind = 2 ∧ d' = (T.br i).dir then false else T.is d' := fun d' => by
    unfold Hi.gone
    by_cases hk : (T.br i).kind = 2
    · simp only [hk, if_true, true_and]
      exact is_set (by have := hsub hk; omega) d'
    · simp [hk]; rfl
  have mem : ∀ {x}, x ∈ (T.gone i).L → x ∈ T.L := fun h => (List.mem_filter.1 h).1
  have ok' : (T.gone i).Ok := by
    refine ⟨base.ids, base.keys, fun x hm => ?_, base.homes, base.uids, fun x hm hk => ?_, ?_, ?_⟩
    · rw [hx, if_neg]
      · exact ok.dirs x (mem hm)
      · rintro ⟨hk, hd⟩
        have := hc hk
        have hp : 0 < T.count (T.br i).dir := count_pos.2 ⟨x, mem hm, hd⟩
        omega
    · have := ok.subs x (mem hm) hk
      have hl : (T.gone i).D.length = T.D.length := by unfold Hi.gone; dsimp only; split <;> simp
      rw [hl]; exact this
    · have hl : (T.gone i).D.length = T.D.length := by unfold Hi.gone; dsimp only; split <;> simp
      have := ok.few
      show (T.gone i).D.length ≤ T.B.length + 1
      omega
    · rw [hx, if_neg]
      · exact ok.root
      · rintro ⟨hk, hd⟩; have := hsub hk; omega
  refine ⟨ok', rfl, ?_, ?_⟩
  · funext u
    apply Option.ext
    intro j
    rw [ok'.seg_iff]
    have hs : ∀ u j, (T.gone i).isSeg u j = T.isSeg u j := fun _ _ => rfl
    have hseg : (∃ x ∈ (T.gone i).L, T.isSeg u x.id = true ∧ x.id = j) ↔ (T.seg u = some j ∧ j ≠ i) := by
      rw [ok.seg_iff]
      constructor
      · rintro ⟨x, hm, e1, e2⟩
        refine ⟨⟨x, mem hm, e1, e2⟩, ?_⟩
        have := (List.mem_filter.1 hm).2
        rw [← e2]; simpa using this
      · rintro ⟨⟨x, hm, e1, e2⟩, hj⟩
        exact ⟨x, List.mem_filter.2 ⟨hm, by rw [e2]; simpa using hj⟩, e1, e2⟩
    simp only [hs]
    rw [hseg]
    by_cases hk : (T.br i).kind = 1
    · rw [if_pos hk]
      unfold upd
      by_cases hu : u = (T.br i).uid
      · subst hu
        rw [if_pos rfl]
        have : T.seg (T.br i).uid = some i := ok.seg_iff.2 ⟨e0, h1, by simp [isSeg, h3, hk], h3⟩
        rw [this]; simp; exact fun h => h.symm
      · rw [if_neg hu]
        constructor
        · exact fun h => h.1
        · intro h
          refine ⟨h, ?_⟩
          rintro rfl
          obtain ⟨x, _, e1, e2⟩ := seg_some h
          rw [e2] at e1
          simp [isSeg] at e1
          exact hu e1.2.symm
    · rw [if_neg hk]
      constructor
      · exact fun h => h.1
      · intro h
        refine ⟨h, ?_⟩
        rintro rfl
        obtain ⟨x, _, e1, e2⟩ := seg_some h
        rw [e2] at e1
        simp [isSeg] at e1
        exact hk e1.1
  · have hcnt : ∀ d', (T.gone i).count d' = (Hi.mk T.B (T.L.filter fun e => !decide (e.id = i)) T.D).count d' := fun _ => rfl
    have his : ∀ d', (Hi.mk T.B (T.L.filter fun e => !decide (e.id = i)) T.D).is d' = T.is d' := fun _ => rfl
    funext d'
    by_cases hk : (T.br i).kind = 2
    · rw [if_pos hk]
      unfold upd dirF
      rw [hx]
      by_cases hd : d' = (T.br i).dir
      · simp [hk, hd]
      · simp [hk, hd, his, hcnt]
    · rw [if_neg hk]
      unfold dirF
      rw [hx]
      simp [hk, his, hcnt]
end Hi
end Go.Con
namespace Go.Con
open Go
set_option linter.unusedSimpArgs false
set_option linter.unusedVariables false
structure Sto where
  quota : Int
  L : List (Option (List Int))
namespace Sto
def lenO : Option (List Int) → Nat
  | some w => w.length
  | none => 0
variable (S : Sto)
def used : Nat := (S.L.map lenO).sum
def room (u : Int) : Option (List Int) := if 1 ≤ u then (S.L[u.toNat - 1]?).join else none
def mayE (n gone : Int) : Int := if n < 0 ∨ 1024 < n then 1 else if S.quota - n < S.used - gone then 6 else 0
def made (n : Int) : Sto := { S with L := S.L ++ [some (List.replicate n.toNat 0)] }
def make (n : Int) : Sto × Int × Int := if S.mayE n 0 = 0 then (S.made n, S.L.length + 1, 0) else (S, 0, S.mayE n 0)
def setR (u : Int) (o : Option (List Int)) : Sto := { S with L := S.L.set (u.toNat - 1) o }
def drop (u : Int) : Sto × Int := match S.room u with
  | none => (S, 4)
  | some _ => (S.setR u none, 0)
def size (u : Int) : Int × Int := match S.room u with
  | none => (0, 4)
  | some w => (w.length, 0)
def read (u off : Int) : Int × Int := match S.room u with
  | none => (0, 4)
  | some w => if off < 0 ∨ w.length ≤ off then (0, 8) else ((w[off.toNat]?).getD 0, 0)
def cut36 (x : Int) : Int := x % 68719476736
def write (u off x : Int) : Sto × Int := match S.room u with
  | none => (S, 4)
  | some w => if off < 0 ∨ w.length ≤ off then (S, 8) else (S.setR u (some (w.set off.toNat (cut36 x))), 0)
structure Ok : Prop where
  quota : 0 ≤ S.quota
  used : (S.used : Int) ≤ S.quota
  len : ∀ u w, S.room u = some w → w.length ≤ 1024
  words : ∀ u w, S.room u = some w → ∀ x ∈ w, 0 ≤ x ∧ x < 68719476736
variable {S}
theorem room_some {u : Int} {w : List Int} (h : S.room u = some w) : 1 ≤ u ∧ u.toNat - 1 < S.L.length ∧ S.L[u.toNat - 1]? = some (some w) := by
  unfold room at h
  by_cases h1 : 1 ≤ u
  · rw [if_pos h1] at h
    cases hx : S.L[u.toNat - 1]? with
    | none => rw [hx] at h; cases h
    | some o =>
      rw [hx] at h
      have h : o = some w := h
      subst h
      exact ⟨h1, (List.getElem?_eq_some_iff.1 hx).1, rfl⟩
  · rw [if_neg h1] at h; cases h
theorem sum_set (f : Option (List Int) → Nat) : ∀ (L : List (Option (List Int))) (i : Nat) (o p : Option (List Int)), L[i]? = some p → ((L.set i o).map f).sum + f p = (L.map f).sum + f o
  | [], i, o, p, h => by simp at h
  | a :: L, 0, o, p, h => by simp at h; subst h; simp; omega
  | a :: L, i + 1, o, p, h => by
    have := sum_set f L i o p (by simpa using h)
    simp only [List.set_cons_succ, List.map_cons, List.sum_cons]; omega
theorem used_setR {u : Int} {w : List Int} (h : S.room u = some w) (o : Option (List Int)) : (S.setR u o).used + w.length = S.used + lenO o := by
  obtain ⟨_, _, h3⟩ := room_some h
  exact sum_set lenO S.L _ o _ h3
theorem room_setR {u : Int} {w : List Int} (h : S.room u = some w) (o : Option (List Int)) (x : Int) : (S.setR u o).room x = if x = u then o else S.room x := by
  obtain ⟨h1, h2, h3⟩ := room_some h
  unfold room setR
  by_cases hx : x = u
  · subst hx
    rw [if_pos h1, if_pos rfl]
    simp [h2]
  · rw [if_neg hx]
    by_cases h4 : 1 ≤ x
    · rw [if_pos h4, if_pos h4, List.getElem?_set_ne (by omega)]
    · rw [if_neg h4, if_neg h4]
theorem used_made (n : Int) : (S.made n).used = S.used + n.toNat := by
  unfold used made; simp [lenO]
theorem room_made (n : Int) (x : Int) : (S.made n).room x = if x = S.L.length + 1 then some (List.replicate n.toNat 0) else S.room x := by
  unfold room made
  by_cases hx : x = S.L.length + 1
  · subst hx
    rw [if_pos (by omega), if_pos rfl]
    have : ((S.L.length : Int) + 1).toNat - 1 = S.L.length := by omega
    rw [this]; simp
  · rw [if_neg hx]
    by_cases h4 : 1 ≤ x
    · rw [if_pos h4, if_pos h4]
      by_cases h5 : x.toNat - 1 < S.L.length
      · rw [List.getElem?_append_left h5]
      · rw [List.getElem?_eq_none (by simp; omega), List.getElem?_eq_none (by omega)]
    · rw [if_neg h4, if_neg h4]
theorem Ok.new {q : Int} : Ok ⟨max q 0, []⟩ := by
  refine ⟨by show (0 : Int) ≤ max q 0; omega, by show ((0 : Nat) : Int) ≤ max q 0; omega, fun u w h => ?_, fun u w h => ?_⟩
  · have := (room_some h).2.1; simp at this
  · have := (room_some h).2.1; simp at this
theorem mayE_zero {n g : Int} (h : S.mayE n g = 0) : 0 ≤ n ∧ n ≤ 1024 ∧ (S.used : Int) - g ≤ S.quota - n := by
  unfold mayE at h
  split at h
  · cases h
  · split at h
    · cases h
    · omega
theorem Ok.made (ok : S.Ok) {n : Int} (h : S.mayE n 0 = 0) : (S.made n).Ok := by
  obtain ⟨h1, h2, h3⟩ := mayE_zero h
  refine ⟨ok.quota, ?_, fun u w hr => ?_, fun u w hr => ?_⟩
  · rw [used_made]; show _ ≤ S.quota; omega
  · rw [room_made] at hr
    split at hr
    · cases hr; simp; omega
    · exact ok.len u w hr
  · rw [room_made] at hr
    split at hr
    · cases hr; intro x hx; obtain ⟨_, rfl⟩ := List.mem_replicate.1 hx; omega
    · exact ok.words u w hr
theorem Ok.set (ok : S.Ok) {u : Int} {w w' : List Int} (h : S.room u = some w) (hl : w'.length ≤ 1024) (hq : (S.used : Int) - w.length + w'.length ≤ S.quota) (hw : ∀ x ∈ w', 0 ≤ x ∧ x < 68719476736) : (S.setR u (some w')).Ok := by
  have hu := used_setR h (some w')
  refine ⟨ok.quota, ?_, fun v z hr => ?_, fun v z hr => ?_⟩
  · simp only [lenO] at hu; show ((S.setR u (some w')).used : Int) ≤ S.quota; omega
  · rw [room_setR h] at hr
    split at hr
    · cases hr; exact hl
    · exact ok.len v z hr
  · rw [room_setR h] at hr
    split at hr
    · cases hr; exact hw
    · exact ok.words v z hr
end Sto
def findF (l : List Tm) (u : ByteArray) : Fl := if listMay l = false then noFl else match l.find? fun t => decide (t.user = u) with
  | some t => t.f
  | none => match l.find? fun t => decide (t.user = star) with
    | some t => t.f
    | none => noFl
def fineB (b : Bk) (r : Int) : Bool := bkMay b && decide (0 ≤ r) && decide (r ≤ 7)
def readE (b : Bk) (f : Fl) (r : Int) : Int := if fineB b r = false then 1 else if f.r = false then 9 else if b.r2 < r then 10 else 0
def writeE (b : Bk) (f : Fl) (r : Int) : Int := if fineB b r = false then 1 else if f.w = false then 9 else if b.r1 < r then 10 else 0
def execE (b : Bk) (f : Fl) (r : Int) : Int := if fineB b r = false then 1 else if f.e = false then 9 else if r < b.r1 ∨ b.r2 < r then 10 else 0
def callE (b : Bk) (f : Fl) (r off : Int) : Int × Int := if fineB b r = false then (0, 1) else if f.e = false then (0, 9) else if r < b.r1 ∨ b.r3 < r then (0, 10) else if r ≤ b.r2 then (r, 0) else if off < 0 ∨ b.g ≤ off then (0, 11) else (b.r2, 0)
structure Sd where
  uid : Int
  size : Int
  f : Fl
  b : Bk
def noSd : Sd := ⟨0, 0, noFl, noBk⟩
def inE (x : Sd) (e off : Int) : Int := if e = 0 ∧ (off < 0 ∨ x.size ≤ off) then 8 else e
def Sd.read (x : Sd) (r off : Int) : Int := inE x (readE x.b x.f r) off
def Sd.write (x : Sd) (r off : Int) : Int := inE x (writeE x.b x.f r) off
def Sd.fetch (x : Sd) (r off : Int) : Int := inE x (execE x.b x.f r) off
def Sd.call (x : Sd) (r off : Int) : Int × Int := let e := inE x (callE x.b x.f r off).2 off; if e = 0 then ((callE x.b x.f r off).1, 0) else (0, e)
def noW (f : Fl) : Fl := { f with w := false }
def sdwOf (T : Hi) (S : Sto) (u : Int) (user : ByteArray) : Sd × Int := match T.byUID u, S.room u with
  | some b, some w => (⟨u, w.length, if b.object then noW (findF b.acl user) else findF b.acl user, b.b⟩, 0)
  | _, _ => (noSd, 4)
end Go.Con
namespace Go.Proofs.YtojcfpgapfceiaaDoor
open Go Go.Ev Go.Con
set_option linter.unusedSimpArgs false
set_option linter.unusedVariables false
set_option maxRecDepth 100000
def keyK (p : Int × ByteArray) : Value := .agg #[.int .i64 p.1, .string p.2]
theorem eqIn_int {P : Program} {t : TypeId} {k : IntKind} (ht : P.underlying t = some (.int k)) (n : Nat) (a b : Int) : prun P (Op.equalIn (n + 1) t (.int k a) (.int k b)) = some (decide (a = b)) := by
  unfold Op.equalIn
  rw [prun_bind, prun_underlying ht, Option.bind_some]
  simp only [if_true]
  show some (a == b) = _
  rfl
theorem eqIn_string {P : Program} {t : TypeId} (ht : P.underlying t = some .string) (n : Nat) (a b : ByteArray) : prun P (Op.equalIn (n + 1) t (.string a) (.string b)) = some (decide (a = b)) := by
  unfold Op.equalIn
  rw [prun_bind, prun_underlying ht, Option.bind_some]
  show some (a == b) = _
  congr 1
  rw [Bool.eq_iff_iff, decide_eq_true_eq]
  show (a.data == b.data) = true ↔ _
  rw [beq_iff_eq]
  exact ⟨fun h => by cases a; cases b; simp_all, fun h => by rw [h]⟩
theorem eqIn_bool {P : Program} {t : TypeId} (ht : P.underlying t = some .bool) (n : Nat) (a b : Bool) : prun P (Op.equalIn (n + 1) t (.bool a) (.bool b)) = some (decide (a = b)) := by
  unfold Op.equalIn
  rw [prun_bind, prun_underlying ht, Option.bind_some]
  show some (a == b) = _
  cases a <;> cases b <;> rfl
def fieldsEq (P : Program) (n : Nat) (xs ys : Array Value) : List Field → Option Bool
  | [] => some true
  | f :: fs => if f.name ≠ "_" then (prun P (part f.type xs f.offset)).bind fun a => (prun P (part f.type ys f.offset)).bind fun b => (prun P (Op.equalIn n f.type a b)).bind fun c => bif c then fieldsEq P n xs ys fs else some false
    else fieldsEq P n xs ys fs
theorem prun_pure {α : Type} {P : Program} (a : α) : prun P (pure a : Sem α) = some a := rfl
theorem eqIn_struct {P : Program} {t : TypeId} {fs : Array Field} (ht : P.underlying t = some (.struct fs)) (hs : P.stoodInHeld t = false) (n : Nat) (xs ys : Array Value) {r : Bool} (h : fieldsEq P n xs ys fs.toList = some r) :
    prun P (Op.equalIn (n + 1) t (.agg xs) (.agg ys)) = some r := by
  unfold Op.equalIn
  rw [prun_bind, prun_underlying ht, Option.bind_some]
  simp only
  have h0 : prun P Go.program = some P := rfl
  rw [prun_bind, h0, Option.bind_some, hs]
  simp only [Bool.false_eq_true, if_false]
  rw [prun_bind, ← Array.forIn_toList]
  have loop : ∀ (l : List Field) (r : Bool), fieldsEq P n xs ys l = some r → prun P (forIn l ((none : Option Bool), ()) fun f __s =>
      if f.name ≠ "_" then do
        let __do_lift ← part f.type xs f.offset
        let __do_lift_1 ← part f.type ys f.offset
        let __do_lift ← Op.equalIn n f.type __do_lift __do_lift_1
        if (!__do_lift) = true then pure (ForInStep.done (some false, ()))
          else pure (ForInStep.yield (none, ()))
      else pure (ForInStep.yield (none, ()))) = some (bif r then (none, ()) else (some false, ())) := by
    intro l
    induction l with
    | nil => intro r hr; cases hr; rfl
    | cons f l ih =>
      intro r hr
      rw [List.forIn_cons, prun_bind]
      unfold fieldsEq at hr
      by_cases hn : f.name ≠ "_"
      · rw [if_pos hn] at hr ⊢
        simp only [Option.bind_eq_some_iff] at hr
        obtain ⟨a, ha, b, hb, c, hc, hr⟩ := hr
        rw [prun_bind, ha, Option.bind_some, prun_bind, hb, Option.bind_some, prun_bind, hc, Option.bind_some]
        cases c with
        | true => simp only [Bool.not_true, Bool.false_eq_true, if_false, cond_true] at hr ⊢; rw [prun_pure, Option.bind_some]; exact ih r hr
        | false => simp only [Bool.not_false, if_true, cond_false] at hr ⊢; cases hr; rfl
      · rw [if_neg hn] at hr ⊢
        rw [prun_pure, Option.bind_some]
        exact ih r hr
  rw [loop _ _ h, Option.bind_some]
  cases r <;> rfl
theorem eq_key (x y : Int × ByteArray) : prun Tryd.prog (Op.equal 84 (keyK x) (keyK y)) = some (decide (x = y)) := by
  obtain ⟨a, s⟩ := x
  obtain ⟨b, u⟩ := y
  have h1 := Tryd.underlying84
  have e1 := eqIn_int (P := Tryd.prog) (t := 3) Tryd.underlying3 9998 a b
  have e2 := eqIn_string (P := Tryd.prog) (t := 9) Tryd.underlying9 9998 s u
  refine eqIn_struct h1 (by kernel_rfl) 9999 _ _ ?_
  have p1 : ∀ (v w : Value), prun Tryd.prog (part 3 #[v, w] 0) = some v := by intro v w; kernel_rfl
  have p2 : ∀ (v w : Value), prun Tryd.prog (part 9 #[v, w] 1) = some w := by intro v w; kernel_rfl
  simp only [fieldsEq, ne_eq, String.reduceEq, not_false_eq_true, if_true, p1, p2, e1, e2, Option.bind_some]
  by_cases h : a = b <;> by_cases h' : s = u <;> simp [h, h']
theorem chk_key (b : Bool) (x : Int × ByteArray) : prun Tryd.prog (Instr.checkKey b 10000 84 (keyK x)) = some () := by
  obtain ⟨a, s⟩ := x
  kernel_rfl
theorem keyK_ok : KeyOK Tryd.prog 84 keyK :=
  keyStruct_ok Tryd.underlying84 (fun _ => rfl) chk_key eq_key (fun x => by
    simp [Instr.sameBits, keyK]
    show (x.snd.data == x.snd.data) = true
    simp)
end Go.Proofs.YtojcfpgapfceiaaDoor
namespace Go.Proofs.YtojcfpgapfceiaaDoor
open Go Go.Ev Go.RowKit
set_option linter.unusedSimpArgs false
set_option linter.unusedVariables false
set_option maxRecDepth 100000
def mask : Nat := 2 ^ 69 - 4 - 2 ^ 57 - 2 ^ 60 - 2 ^ 64 - 2 ^ 67
def sums : List (Nat × Sum) := [(47, sumSplit 9), (50, sumCmp Lib.compareBytes)]
def sumAt (f : Nat) : List (Nat × Sum) → Option Sum
  | [] => none
  | (g, s) :: l => bif Nat.beq f g then some s else sumAt f l
noncomputable def ctx : Ctx := { P := Tryd.prog, mask := mask, S := fun f => sumAt f sums }
def awakes : List Nat := 4 :: []
def sumAwake : Sum
  | [], h => some (.bool true, h)
  | _, _ => none
noncomputable def kon : Ctx := { ctx with S := fun f => bif awakes.contains f then some sumAwake else ctx.S f }
theorem awake_call {f : FuncId} (hf : kon.S f = some sumAwake) (h : Hp) (Q : Value → Hp → Prop) : callP kon f h Q [] = Q (.bool true) h := callP_of (Ret.sum hf rfl)
end Go.Proofs.YtojcfpgapfceiaaDoor
