/- The model of flags, brackets, access lists and the hierarchy. No program in sight. -/
import Derived.Test.YtncmgiddcefpcaaDoorConA
import Derived.Lib.Bytealg
import GoSem.Op.String
namespace Go.Con
open Go
set_option linter.unusedSimpArgs false
set_option linter.unusedVariables false

structure Fl where
  r : Bool
  w : Bool
  e : Bool
  deriving DecidableEq
structure Bk where
  r1 : Int
  r2 : Int
  r3 : Int
  g : Int
  deriving DecidableEq
structure Tm where
  user : ByteArray
  f : Fl
  deriving DecidableEq
/-- A branch. -/
structure Bn where
  kind : Int
  uid : Int
  dir : Int
  link : ByteArray
  object : Bool
  acl : List Tm
  b : Bk
  deriving DecidableEq

def noFl : Fl := ⟨false, false, false⟩
def noBk : Bk := ⟨0, 0, 0, 0⟩
def noBn : Bn := ⟨0, 0, 0, ByteArray.empty, false, [], noBk⟩

/-- Brackets that may be. -/
def bkMay (b : Bk) : Bool := decide (0 ≤ b.r1) && decide (b.r1 ≤ b.r2) && decide (b.r2 ≤ b.r3) && decide (b.r3 ≤ 7) && decide (0 ≤ b.g) && decide (b.g ≤ 1024)
def star : ByteArray := ⟨#[42]⟩
def userT (s : ByteArray) : Bool := decide (s = star) || mayU s
/-- Less, of texts. -/
def ltS (a b : ByteArray) : Bool := decide (a.data.toList < b.data.toList)
theorem cmp_lt : ∀ (x y : List UInt8), Lib.compareBytes x y < 0 ↔ x < y
  | [], [] => by simp [Lib.compareBytes]
  | [], b :: y => by simp [Lib.compareBytes]
  | a :: x, [] => by simp [Lib.compareBytes]
  | a :: x, b :: y => by
    have ih := cmp_lt x y
    unfold Lib.compareBytes
    rw [List.cons_lt_cons_iff]
    by_cases h : a < b
    · simp [h]
    · by_cases h2 : b < a
      · have : a ≠ b := by rintro rfl; exact h h2
        simp [h, h2, this]
      · have : a = b := UInt8.le_antisymm (UInt8.not_lt.1 h2) (UInt8.not_lt.1 h)
        subst this
        simp [ih]
theorem bless_lt : ∀ (x y : List UInt8), Op.bytesLess x y = decide (x < y)
  | [], [] => by simp [Op.bytesLess]
  | [], b :: y => by simp [Op.bytesLess]
  | a :: x, [] => by simp [Op.bytesLess]
  | a :: x, b :: y => by
    have ih := bless_lt x y
    unfold Op.bytesLess
    rw [ih, Bool.eq_iff_iff]
    simp [List.cons_lt_cons_iff]
theorem ltS_cmp (a b : ByteArray) : ltS a b = decide (Lib.compareBytes a.data.toList b.data.toList < 0) := by
  unfold ltS; rw [Bool.eq_iff_iff]; simp [cmp_lt]
theorem leS_not {a b : List UInt8} : (decide (a < b) || (a == b)) = !decide (b < a) := by
  rw [Bool.eq_iff_iff]
  simp only [Bool.or_eq_true, decide_eq_true_eq, beq_iff_eq, Bool.not_eq_true', decide_eq_false_iff_not, List.not_lt]
  constructor
  · rintro (h | rfl)
    · exact List.le_of_lt h
    · exact List.le_refl _
  · intro h
    by_cases e : a = b
    · exact .inr e
    · left
      refine Decidable.byContradiction fun hn => e (List.le_antisymm h (List.not_lt.1 hn))
def tmAt (l : List Tm) (i : Nat) : Tm := (l[i]?).getD ⟨ByteArray.empty, noFl⟩
/-- A term that may be, and that is greater than the one ahead of it. -/
def okAt (l : List Tm) (i : Nat) : Bool := userT (tmAt l i).user && (decide (i = 0) || ltS (tmAt l (i - 1)).user (tmAt l i).user)
def listMay (l : List Tm) : Bool := (List.range l.length).all (okAt l) && decide (l.length ≤ 16)

/-- A name in a directory, of a branch. -/
structure En where
  dir : Int
  id : Nat
  name : ByteArray
  deriving DecidableEq
def En.key (e : En) : Int × ByteArray := (e.dir, e.name)

/-- What stands at a key, in a list of pairs. -/
def mLook {κ υ : Type} [DecidableEq κ] : List (κ × υ) → κ → Option υ
  | [], _ => none
  | (k, v) :: l, x => if k = x then some v else mLook l x
/-- A pair laid in: in its place, or at the end. -/
def mPut {κ υ : Type} [DecidableEq κ] : List (κ × υ) → κ → υ → List (κ × υ)
  | [], x, y => [(x, y)]
  | (k, v) :: l, x, y => if k = x then (x, y) :: l else (k, v) :: mPut l x y
/-- A pair taken away. -/
def mDel {κ υ : Type} [DecidableEq κ] : List (κ × υ) → κ → List (κ × υ)
  | [], _ => []
  | (k, v) :: l, x => if k = x then l else (k, v) :: mDel l x

/-- The hierarchy: branches by their own number; names in the order in which they came; which directories there are. -/
structure Hi where
  B : List Bn
  L : List En
  D : List Bool
def newHi : Hi := ⟨[], [], [true]⟩
namespace Hi
variable (T : Hi)
def is (d : Int) : Bool := decide (0 ≤ d) && (T.D[d.toNat]? == some true)
def br (i : Nat) : Bn := (T.B[i]?).getD noBn
/-- The names, as a map. -/
def getF (k : Int × ByteArray) : Option Nat := (T.L.find? fun e => decide (e.key = k)).map (·.id)
abbrev get (d : Int) (n : ByteArray) : Option Nat := T.getF (d, n)
/-- Is the branch this segment? -/
def isSeg (u : Int) (i : Nat) : Bool := decide ((T.br i).kind = 1) && decide ((T.br i).uid = u)
def seg (u : Int) : Option Nat := (T.L.find? fun e => T.isSeg u e.id).map (·.id)
def count (d : Int) : Nat := T.L.countP fun e => decide (e.dir = d)
/-- The directories, as a map: how many names each has. -/
def dirF (d : Int) : Option Int := if T.is d = true then some (T.count d : Int) else none
def many (i : Nat) : Nat := T.L.countP fun e => decide (e.id = i)
/-- Why a branch can't be, by itself. -/
def cleanE (b : Bn) : Int :=
  if b.kind = 1 then (if b.uid < 1 ∨ listMay b.acl = false ∨ bkMay b.b = false then 1 else if (T.seg b.uid).isSome then 5 else 0)
  else if b.kind = 2 then 0
  else if b.kind = 3 then (if (split b.link).isSome then 0 else 3)
  else 15
/-- A branch with the fields of its kind alone. -/
def clean (b : Bn) : Bn :=
  if b.kind = 1 then ⟨1, b.uid, 0, ByteArray.empty, b.object, b.acl, b.b⟩
  else if b.kind = 2 then ⟨2, 0, T.D.length, ByteArray.empty, false, [], noBk⟩
  else ⟨3, 0, 0, b.link, false, [], noBk⟩
/-- Why a branch can't be added. -/
def why (d : Int) (n : ByteArray) (b : Bn) : Int :=
  if T.is d = false then 4 else if mayN n = false then 3 else if (T.get d n).isSome then 5 else T.cleanE b
def added (d : Int) (n : ByteArray) (b : Bn) : Hi := ⟨T.B ++ [T.clean b], T.L ++ [⟨d, T.B.length, n⟩], if b.kind = 2 then T.D ++ [true] else T.D⟩
/-- Add: the hierarchy behind it, the directory's number, the error. -/
def add (d : Int) (n : ByteArray) (b : Bn) : Hi × Int × Int :=
  if T.why d n b = 0 then (T.added d n b, (T.clean b).dir, 0) else (T, 0, T.why d n b)
def look (d : Int) (n : ByteArray) : Option Bn := (T.get d n).map T.br
def whyName (d : Int) (n m : ByteArray) : Int := if (T.get d n).isNone then 4 else if mayN m = false then 3 else if (T.get d m).isSome then 5 else 0
def named (d : Int) (m : ByteArray) (i : Nat) : Hi := { T with L := T.L ++ [⟨d, i, m⟩] }
def name (d : Int) (n m : ByteArray) : Hi × Int :=
  match T.get d n with
  | none => (T, 4)
  | some i => if mayN m = false then (T, 3) else if (T.get d m).isSome then (T, 5) else (T.named d m i, 0)
/-- A name taken away. -/
def taken (d : Int) (n : ByteArray) : Hi := { T with L := T.L.filter fun e => !decide (e.key = (d, n)) }
def unname (d : Int) (n : ByteArray) : Hi × Int :=
  match T.get d n with
  | none => (T, 4)
  | some i => if T.many i = 1 then (T, 16) else (T.taken d n, 0)
def gone (i : Nat) : Hi := { T with L := T.L.filter (fun e => !decide (e.id = i)), D := if (T.br i).kind = 2 then T.D.set (T.br i).dir.toNat false else T.D }
def delete (d : Int) (n : ByteArray) : Hi × Bn × Int :=
  match T.get d n with
  | none => (T, noBn, 4)
  | some i => if (T.br i).kind = 2 ∧ 0 < T.count (T.br i).dir then (T, noBn, 16) else (T.gone i, T.br i, 0)
def byUID (u : Int) : Option Bn := (T.seg u).map T.br
def setB (i : Nat) (b : Bn) : Hi := { T with B := T.B.set i b }
def access (d : Int) (n : ByteArray) (l : List Tm) : Hi × Int :=
  match T.get d n with
  | none => (T, 4)
  | some i => if (T.br i).kind ≠ 1 then (T, 15) else if listMay l = false then (T, 1) else (T.setB i { T.br i with acl := l }, 0)
def ringed (d : Int) (n : ByteArray) (b : Bk) : Hi × Int :=
  match T.get d n with
  | none => (T, 4)
  | some i => if (T.br i).kind ≠ 1 then (T, 15) else if bkMay b = false then (T, 1) else (T.setB i { T.br i with b := b }, 0)
/-- The names of a directory. -/
def namesOf (d : Int) : List ByteArray := (T.L.filter fun e => decide (e.dir = d)).map (·.name)

/-- What holds of every hierarchy that was built by these. -/
structure Ok : Prop where
  ids : ∀ e ∈ T.L, e.id < T.B.length
  keys : (T.L.map En.key).Nodup
  dirs : ∀ e ∈ T.L, T.is e.dir = true
  homes : ∀ a ∈ T.L, ∀ b ∈ T.L, a.id = b.id → a.dir = b.dir
  uids : ∀ a ∈ T.L, ∀ b ∈ T.L, (T.br a.id).kind = 1 → (T.br b.id).kind = 1 → (T.br a.id).uid = (T.br b.id).uid → a.id = b.id
  subs : ∀ e ∈ T.L, (T.br e.id).kind = 2 → 0 < (T.br e.id).dir ∧ (T.br e.id).dir < T.D.length
  few : T.D.length ≤ T.B.length + 1
  root : T.is 0 = true
end Hi
end Go.Con
