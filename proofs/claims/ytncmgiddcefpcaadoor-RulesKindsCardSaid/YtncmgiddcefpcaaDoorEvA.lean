/- The abstract interpreter: deterministic, over an abstract heap. Definitions alone; nothing is proved here. -/
import Derived.Tactics
import Derived.KernelRfl
namespace Go.Ev
open Go
set_option linter.unusedSimpArgs false
set_option linter.unusedVariables false

/-! ### a trie -/
inductive Tr (α : Type) where
  | e
  | n (l : Tr α) (v : Option α) (r : Tr α)

namespace Tr
variable {α : Type}
def get : Tr α → Nat → Option α
  | .e, _ => none
  | .n l v r, k => match k with
    | 0 => v
    | j + 1 => bif Nat.beq (j % 2) 0 then l.get (j / 2) else r.get (j / 2)
def setF : Nat → Tr α → Nat → α → Tr α
  | 0, t, _, _ => t
  | f + 1, .e, k, a => match k with
    | 0 => .n .e (some a) .e
    | j + 1 => bif Nat.beq (j % 2) 0 then .n (setF f .e (j / 2) a) none .e else .n .e none (setF f .e (j / 2) a)
  | f + 1, .n l v r, k, a => match k with
    | 0 => .n l (some a) r
    | j + 1 => bif Nat.beq (j % 2) 0 then .n (setF f l (j / 2) a) v r else .n l v (setF f r (j / 2) a)
def set (t : Tr α) (k : Nat) (a : α) : Tr α := setF (k + 1) t k a
def ofList : List α → Nat → Tr α → Tr α
  | [], _, t => t
  | a :: l, k, t => ofList l (k + 1) (t.set k a)
end Tr

/-! ### the abstract heap -/
inductive St where
  | ro
  | rw (base : Nat) (olds : List Nat)
  | dead

inductive Ob where
  | row (cs : List Value) (el : TypeId) (st : St)
  | map (es : List MapEntry) (clock : Nat)

structure Hp where
  t : Tr Ob
  next : Nat

namespace Hp
def get (h : Hp) (b : Nat) : Option Ob := h.t.get b
def set (h : Hp) (b : Nat) (o : Ob) : Hp := { h with t := h.t.set b o }
def push (h : Hp) (o : Ob) : Hp := { t := h.t.set h.next o, next := h.next + 1 }
end Hp

/-! ### what is looked up of a type -/
def tSize (P : Program) (t : TypeId) : Option Nat := (P.info? t).map (·.size)
def tBytes (P : Program) (t : TypeId) : Option Nat := (P.info? t).map (·.bytes)
def tAgg (P : Program) (t : TypeId) : Option Bool := (P.underlying t).map fun
  | .struct _ => true
  | .array _ _ => true
  | _ => false
def tZero (P : Program) (t : TypeId) : Option Value := (P.info? t).bind (·.zero)
/-- A field's offset and type. -/
def tField (P : Program) (t : TypeId) (i : Nat) : Option (Nat × TypeId) :=
  match P.underlying t with
  | some (.struct fs) => match fs[i]? with
    | some f => some (f.offset, f.type)
    | none => none
  | _ => none
def tSliceElem (P : Program) (t : TypeId) : Option TypeId :=
  match P.underlying t with
  | some (.slice e) => some e
  | _ => none
/-- An array's length and element. -/
def tArray (P : Program) (t : TypeId) : Option (Nat × TypeId) :=
  match P.underlying t with
  | some (.array n e) => some (n, e)
  | _ => none
def tMap (P : Program) (t : TypeId) : Option (TypeId × TypeId) :=
  match P.underlying t with
  | some (.map k e) => some (k, e)
  | _ => none
def tIface (P : Program) (t : TypeId) : Option Bool := (P.underlying t).map fun
  | .interface _ => true
  | _ => false
def tString (P : Program) (t : TypeId) : Option Bool := (P.underlying t).map fun
  | .string => true
  | _ => false

/-! ### values without addresses -/
def scal : Value → Bool
  | .bool _ | .int _ _ | .float _ _ | .complex _ _ _ | .string _ | .nilFunc | .nilIface => true
  | .pointer none | .map none | .chan none => true
  | .slice none 0 0 => true
  | _ => false
def flat : Value → Bool
  | .agg cs => cs.toList.all scal
  | .tuple cs => cs.toList.all scal
  | .iface _ v => scal v
  | .func (.func _) f c => f.isEmpty && c.isEmpty
  | v => scal v
def isCell : Value → Bool
  | .agg _ | .tuple _ | .chan (some 0) => false
  | _ => true
/-- Not the hole. -/
def boxable : Value → Bool
  | .chan (some 0) => false
  | _ => true

/-- A computation that asks nothing but the program. -/
def prun {α : Type} (P : Program) : Sem α → Option α
  | .pure a => some a
  | .program k => prun P (k P)
  | .mark _ k => prun P k
  | _ => none

/-- The same, where the answer bears no address. -/
def prunS (P : Program) (s : Sem Value) : Option Value := (prun P s).bind fun v => bif flat v then some v else none

abbrev Fr := Tr Value

def ev1 (fr : Fr) : Operand → Option Value
  | .tmp t => fr.get t
  | .const v => bif flat v then some v else none
  | .func f => some (.func (.func f) #[] #[])
  | .global _ => none

/-- All of several. -/
def evs (fr : Fr) : List Operand → Option (List Value)
  | [] => some []
  | x :: l => (ev1 fr x).bind fun v => (evs fr l).bind fun vs => some (v :: vs)

def asI : Value → Option Int
  | .int _ n => some n
  | _ => none

/-! ### operations that look at no memory -/
def evBin (P : Program) (op : BinOp) (t : TypeId) (xo yo : Operand) (x y : Value) : Option Value :=
  match flat x && flat y, op, x, y with
  | true, _, _, _ => prunS P (do eqGuard op t xo yo x y; binOp op t x y)
  | _, .eql, .pointer (some _), .pointer none => bif (tPtr P t) then some (.bool false) else none
  | _, .neq, .pointer (some _), .pointer none => bif (tPtr P t) then some (.bool true) else none
  | _, .eql, .pointer none, .pointer (some _) => bif (tPtr P t) then some (.bool false) else none
  | _, .neq, .pointer none, .pointer (some _) => bif (tPtr P t) then some (.bool true) else none
  | _, .eql, .slice (some _) _ _, .slice none _ _ => bif (tSliceElem P t).isSome then some (.bool false) else none
  | _, .neq, .slice (some _) _ _, .slice none _ _ => bif (tSliceElem P t).isSome then some (.bool true) else none
  | _, .eql, .map (some _), .map none => bif (tMap P t).isSome then some (.bool false) else none
  | _, .neq, .map (some _), .map none => bif (tMap P t).isSome then some (.bool true) else none
  | _, _, _, _ => none
  where
  tPtr (P : Program) (t : TypeId) : Bool := match P.underlying t with
    | some (.pointer _) => true
    | _ => false

/-- Cells laid over cells. -/
def splice (cs : List Value) (o : Nat) (vs : List Value) : List Value := cs.take o ++ vs ++ cs.drop (o + vs.length)

/-- The places of a struct's fields: offset and size. -/
def tPlaces (P : Program) (t : TypeId) : Option (List (Nat × Nat)) :=
  match P.underlying t with
  | some (.struct fs) => fs.toList.mapM fun f => (P.info? f.type).map fun i => (f.offset, i.size)
  | _ => none
/-- Parts laid into cells. -/
def fillV (place : Nat → Option (Nat × Nat)) (cs : List Value) : List (Nat × Value) → Option (List Value)
  | [] => some cs
  | (i, v) :: rest => match place i with
    | some (off, size) => bif (v.cells.size == size) && decide (off + v.cells.size ≤ cs.length) && boxable v then fillV place (splice cs off v.cells.toList) rest else none
    | none => none

def evParts (fr : Fr) : List (Nat × Operand) → Option (List (Nat × Value))
  | [] => some []
  | (i, x) :: l => (ev1 fr x).bind fun v => (evParts fr l).bind fun vs => some ((i, v) :: vs)

def evBuild (P : Program) (t : TypeId) (parts : List (Nat × Value)) : Option Value :=
  (tZero P t).bind fun z => bif !flat z then none else match tPlaces P t, tArray P t with
    | some ps, _ => (fillV (fun i => ps[i]?) z.cells.toList parts).map fun cs => .agg cs.toArray
    | none, some (_, e) => (tSize P e).bind fun n => (fillV (fun i => some (i * n, n)) z.cells.toList parts).map fun cs => .agg cs.toArray
    | none, none => none

/-- A piece of an aggregate's cells. -/
def evPart (P : Program) (t : TypeId) (cs : List Value) (off : Nat) : Option Value :=
  match tAgg P t with
  | some true => (tSize P t).bind fun n => bif decide (off + n ≤ cs.length) then some (.agg ((cs.drop off).take n).toArray) else none
  | some false => cs[off]?
  | none => none

def evField (P : Program) (t : TypeId) (v : Value) (i : Nat) : Option Value :=
  match v, tField P t i with
  | .agg cs, some (off, ft) => evPart P ft cs.toList off
  | _, _ => none

def evFieldAddr (P : Program) (t : TypeId) (v : Value) (i : Nat) : Option Value :=
  match v, tField P t i with
  | .pointer (some ⟨b, o, none⟩), some (off, ft) => match tSize P ft with
    | some (_ + 1) => some (.pointer (some ⟨b, o + off, none⟩))
    | _ => none
  | _, _ => none

def evIndexAddr (P : Program) (t : TypeId) (x ix : Value) : Option Value :=
  match x, ix with
  | .slice (some ⟨b, o, none⟩) len _, .int _ i => (tSliceElem P t).bind fun e => (tSize P e).bind fun n =>
    bif decide (0 ≤ i) && decide (i < len) then some (.pointer (some ⟨b, o + i.toNat * n, none⟩)) else none
  | .pointer (some ⟨b, o, none⟩), .int _ i => (tArray P t).bind fun (len, e) => (tSize P e).bind fun n =>
    bif decide (0 ≤ i) && decide (i < len) then some (.pointer (some ⟨b, o + i.toNat * n, none⟩)) else none
  | _, _ => none

def evIndex (P : Program) (t : TypeId) (x ix : Value) : Option Value :=
  match x, ix with
  | .string s, .int _ i => bif (tString P t == some true) && decide (0 ≤ i) then (s[i.toNat]?).map fun b => .int .u8 b.toNat else none
  | .agg cs, .int _ i => (tArray P t).bind fun (len, e) => (tSize P e).bind fun n =>
    bif decide (0 ≤ i) && decide (i < len) then evPart P e cs.toList (i.toNat * n) else none
  | _, _ => none

/-- The bound of a slice expression: what is not said is 'd'. -/
def bound (x : Option Value) (d lim : Nat) : Option Nat :=
  match x with
  | none => some d
  | some (.int _ i) => bif decide (0 ≤ i) && decide (i ≤ lim) then some i.toNat else none
  | some _ => none

/-- A slice's abstract capacity: twice the number, and one more where the true one may be greater. -/
def evSlice (P : Program) (t : TypeId) (x : Value) (lo hi mx : Option Value) : Option Value :=
  match x with
  | .string s => bif (tString P t == some true) && mx.isNone then
      (bound hi s.size s.size).bind fun h => (bound lo 0 h).bind fun l => some (.string (s.extract l h)) else none
  | .slice a len cap => (tSliceElem P t).bind fun e => (tSize P e).bind fun n =>
    match mx with
    | none => (bound hi len (cap / 2)).bind fun h => (bound lo 0 h).bind fun l =>
      some (.slice (a.map fun a => ⟨a.block, a.off + l * n, none⟩) (h - l) (2 * (cap / 2 - l) + cap % 2))
    | some m => match m with
      | .int _ _ => (bound (some m) 0 (cap / 2)).bind fun m => (bound hi len m).bind fun h => (bound lo 0 h).bind fun l =>
        bif hi.isNone then none else some (.slice (a.map fun a => if m = l then a else ⟨a.block, a.off + l * n, none⟩) (h - l) (2 * (m - l)))
      | _ => none
  | _ => none

/-- The built-in functions that look at no memory. -/
def evPureCall (P : Program) (fr : Fr) (c : Call) (ty : TypeId) : Option Value :=
  match c.callee with
  | .builtin .len => match c.args.toList, c.argTypes.toList with
    | [x], t :: _ => (ev1 fr x).bind fun
      | .string s => bif tString P t == some true then some (.int .i64 s.size) else none
      | .slice _ n _ => bif (tSliceElem P t).isSome then some (.int .i64 n) else none
      | _ => none
    | _, _ => none
  | .builtin .max => (evs fr c.args.toList).bind fun vs => bif vs.all scal then prunS P (Builtin.max_ c.argTypes ty vs.toArray) else none
  | .builtin .min => (evs fr c.args.toList).bind fun vs => bif vs.all scal then prunS P (Builtin.min_ c.argTypes ty vs.toArray) else none
  | _ => none

/-- Operations that look at no memory. -/
def evPure (P : Program) (fr : Fr) (o : Oper) : Option Value :=
  match o.op with
  | .move x | .assign x => ev1 fr x
  | .pick c a b => (ev1 fr c).bind fun
    | .bool true => ev1 fr a
    | .bool false => ev1 fr b
    | _ => none
  | .build t parts => (evParts fr parts.toList).bind (evBuild P t)
  | .nilCheck x => (ev1 fr x).bind fun
    | .pointer (some a) => some (.pointer (some a))
    | _ => none
  | .binOp op t x y _ => (ev1 fr x).bind fun a => (ev1 fr y).bind fun b => evBin P op t x y a b
  | .unOp op _ x => (ev1 fr x).bind fun a => bif scal a then prunS P (Op.unary op a) else none
  | .convert s d x => (ev1 fr x).bind fun a => bif scal a then prunS P (convert s d a) else none
  | .makeInterface t x => (ev1 fr x).bind fun a => bif tIface P t == some false then some (.iface t a) else none
  | .makeFunc (.func f) first captured => (evs fr first.toList).bind fun fs => (evs fr captured.toList).bind fun cs => some (.func (.func f) fs.toArray cs.toArray)
  | .fieldAddr t x i => (ev1 fr x).bind fun a => evFieldAddr P t a i
  | .field t x i => (ev1 fr x).bind fun a => evField P t a i
  | .indexAddr t x i => (ev1 fr x).bind fun a => (ev1 fr i).bind fun b => evIndexAddr P t a b
  | .index t x i => (ev1 fr x).bind fun a => (ev1 fr i).bind fun b => evIndex P t a b
  | .slice t x lo hi mx => (ev1 fr x).bind fun a => (opt fr lo).bind fun lo => (opt fr hi).bind fun hi => (opt fr mx).bind fun mx => evSlice P t a lo hi mx
  | .extract x i => (ev1 fr x).bind fun
    | .tuple vs => vs[i]?
    | _ => none
  | .call c => evPureCall P fr c o.type
  | _ => none
  where
  opt (fr : Fr) : Option Operand → Option (Option Value)
    | none => some none
    | some x => (ev1 fr x).map some

/-! ### operations that read memory -/
def rowOf (h : Hp) (b : Nat) : Option (List Value) :=
  match h.get b with
  | some (.row _ _ .dead) => none
  | some (.row cs _ _) => some cs
  | _ => none

def evLoad (P : Program) (t : TypeId) (v : Value) (h : Hp) : Option Value :=
  match v with
  | .pointer (some ⟨b, o, none⟩) => (rowOf h b).bind fun cs => evPart P t cs o
  | _ => none

/-- The first n cells of what a slice or a string holds. -/
def evCells (size n : Nat) (v : Value) (h : Hp) : Option (List Value) :=
  match v with
  | .slice none _ _ => some []
  | .slice (some ⟨b, o, none⟩) _ _ => bif n * size == 0 then some [] else (rowOf h b).bind fun cs =>
    bif decide (o + n * size ≤ cs.length) then some ((cs.drop o).take (n * size)) else none
  | .string s => some ((s.extract 0 n).data.toList.map fun b => .int .u8 b.toNat)
  | _ => none

def toBytes : List Value → Option (List UInt8)
  | [] => some []
  | .int .u8 n :: l => (toBytes l).map (UInt8.ofNat n.toNat :: ·)
  | _ :: _ => none

def mapOf (h : Hp) (v : Value) : Option (List MapEntry) :=
  match v with
  | .map none => some []
  | .map (some r) => match h.get r with
    | some (.map es _) => some es
    | _ => none
  | _ => none

def evLookup (P : Program) (t : TypeId) (m k : Value) (ok : Bool) (h : Hp) : Option Value :=
  (tMap P t).bind fun (kt, et) => bif !flat k then none else
    (mapOf h m).bind fun es => (prun P (do Instr.checkKey es.isEmpty 10000 kt k; Instr.findKey kt k es)).bind fun
      | some (_, v) => some (bif ok then .tuple #[v, .bool true] else v)
      | none => (tZero P et).bind fun z => bif flat z then some (bif ok then .tuple #[z, .bool false] else z) else none

def evReadCall (P : Program) (fr : Fr) (c : Call) (h : Hp) : Option Value :=
  match c.callee with
  | .builtin .len => match c.args.toList, c.argTypes.toList with
    | [x], t :: _ => (ev1 fr x).bind fun v => bif (tMap P t).isNone then none else (mapOf h v).map fun es => .int .i64 es.length
    | _, _ => none
  | _ => none

def evRead (P : Program) (fr : Fr) (o : Oper) (h : Hp) : Option Value :=
  match o.op with
  | .load t x => (ev1 fr x).bind fun a => evLoad P t a h
  | .lookup t x i ok => (ev1 fr x).bind fun a => (ev1 fr i).bind fun b => evLookup P t a b ok h
  | .convert s d x => (ev1 fr x).bind fun
    | .slice a n c => (tSliceElem P s).bind fun e => match P.underlying e, tString P d with
      | some (.int .u8), some true => (evCells 1 n (.slice a n c) h).bind fun cs => (toBytes cs).map fun l => .string ⟨l.toArray⟩
      | _, _ => none
    | _ => none
  | .call c => evReadCall P fr c h
  | .binOp op t x y _ => (ev1 fr x).bind fun a => (ev1 fr y).bind fun b => match op, a, b with
    | .eql, .pointer (some ⟨a, i, none⟩), .pointer (some ⟨b, j, none⟩) => bif tPtr P t && alive h a && alive h b then some (.bool (a == b && i == j)) else none
    | .neq, .pointer (some ⟨a, i, none⟩), .pointer (some ⟨b, j, none⟩) => bif tPtr P t && alive h a && alive h b then some (.bool !(a == b && i == j)) else none
    | _, _, _ => none
  | _ => none
  where
  alive (h : Hp) (b : Nat) : Bool := match h.get b with
    | some (.row _ _ (.rw 0 [])) => true
    | _ => false
  tPtr (P : Program) (t : TypeId) : Bool := match P.underlying t with
    | some (.pointer e) => match tSize P e with
      | some (_ + 1) => true
      | _ => false
    | _ => false

/-! ### operations that make one block -/
def evNew (P : Program) (fr : Fr) (o : Oper) : Option (Ob × (Nat → Value)) :=
  match o.op with
  | .alloc t => (tZero P t).bind fun z => bif !flat z then none else some (.row z.cells.toList t (.rw 0 []), fun b => .pointer (some ⟨b, 0, none⟩))
  | .box t x => (ev1 fr x).bind fun v => bif boxable v then some (.row v.cells.toList t (.rw 0 []), fun b => .pointer (some ⟨b, 0, none⟩)) else none
  | .buildSlice t len parts => (tSliceElem P t).bind fun e => (tSize P e).bind fun n => (tZero P e).bind fun z =>
    bif decide (len * n ≤ 2 ^ 24) && (z.cells.size == n) && flat z then
      (evParts fr parts.toList).bind fun ps => (fillV (fun i => some (i * n, n)) (List.replicate len z.cells.toList).flatten ps).map fun cs =>
        (.row cs e (.rw 0 []), fun b => .slice (some ⟨b, 0, none⟩) len (2 * len))
    else none
  | .makeMap t r => bif (tMap P t).isSome && r.isNone then some (.map [] 0, fun b => .map (some b)) else none
  | .makeSlice t l c => (ev1 fr l).bind fun l => (ev1 fr c).bind fun c => match l, c with
    | .int .i64 l, .int .i64 c => (tSliceElem P t).bind fun e => (tSize P e).bind fun n => (tBytes P e).bind fun by_ => (tZero P e).bind fun z =>
      bif decide (0 ≤ l) && decide (l ≤ c) && decide (c * (by_ + 1) ≤ 2 ^ 47) && (z.cells.size == n) && flat z then
        some (.row (List.replicate c.toNat z.cells.toList).flatten e (.rw 0 []), fun b => .slice (some ⟨b, 0, none⟩) l.toNat (2 * c.toNat))
      else none
    | _, _ => none
  | _ => none

/-! ### operations that write -/
def kill1 (h : Hp) (b : Nat) : Hp :=
  match h.get b with
  | some (.row cs e _) => h.set b (.row cs e .dead)
  | _ => h
def kill (h : Hp) : List Nat → Hp
  | [] => h
  | b :: l => kill (kill1 h b) l

/-- Cells written into a block that may be written. -/
def writeAt (h : Hp) (b o : Nat) (vs : List Value) : Option Hp :=
  match h.get b with
  | some (.row cs e (.rw base olds)) =>
    bif decide (o + vs.length ≤ cs.length) && vs.all isCell then
      bif decide (base ≤ o) then some (h.set b (.row (splice cs o vs) e (.rw base olds)))
      else some ((kill h olds).set b (.row (splice cs o vs) e (.rw 0 [])))
    else none
  | _ => none

def evStore (P : Program) (t : TypeId) (a v : Value) (h : Hp) : Option Hp :=
  match a with
  | .pointer (some ⟨b, o, none⟩) => bif tSize P t == some v.cells.size then writeAt h b o v.cells.toList else none
  | _ => none

def evMapUpdate (P : Program) (t : TypeId) (m k v : Value) (h : Hp) : Option Hp :=
  match tMap P t, m with
  | some (kt, _), .map (some r) => match h.get r with
    | some (.map es clock) => bif !flat k then none else
      (prun P (do Instr.checkKey false 10000 kt k; Instr.findKey kt k es)).bind fun
        | some (i, _) => match es[i]? with
          | some e => bif Instr.sameBits 10000 e.key k then some (h.set r (.map (es.set i { e with key := k, val := v }) clock)) else none
          | none => none
        | none => some (h.set r (.map (es ++ [{ key := k, val := v, born := clock }]) (clock + 1)))
    | _ => none
  | _, _ => none

def evDelete (P : Program) (t : TypeId) (m k : Value) (h : Hp) : Option Hp :=
  match tMap P t, m with
  | some (kt, _), .map (some r) => match h.get r with
    | some (.map es clock) => bif !flat k then none else
      (prun P (do Instr.checkKey es.isEmpty 10000 kt k; Instr.findKey kt k es)).bind fun
        | some (i, _) => some (h.set r (.map (es.eraseIdx i) clock))
        | none => some h
    | _ => none
  | _, _ => none

def lenOf : Value → Option Nat
  | .slice _ n _ => some n
  | .string s => some s.size
  | _ => none

def evAppend (P : Program) (t : TypeId) (s x : Value) (h : Hp) : Option (Value × Hp) :=
  match s with
  | .slice base len cap => (tSliceElem P t).bind fun e => (tSize P e).bind fun n => (tBytes P e).bind fun by_ => (tZero P e).bind fun z => (lenOf x).bind fun k =>
    bif !((z.cells.size == n) && flat z) then none else
    bif k == 0 then some (s, h) else
    (evCells n k x h).bind fun new =>
    bif !(new.all isCell) || !decide ((2 * (len + k) + 1024) * (by_ + 1) ≤ 2 ^ 47) || !Nat.beq new.length (k * n) then none else
    bif decide (len + k ≤ cap / 2) then
      match base with
      | some ⟨b, o, none⟩ => (writeAt h b (o + len * n) new).map fun h => (.slice base (len + k) cap, h)
      | _ => none
    else
      bif cap % 2 == 0 then
        (evCells n len s h).map fun old => (.slice (some ⟨h.next, 0, none⟩) (len + k) (2 * (len + k) + 1), h.push (.row (old ++ new) e (.rw 0 [])))
      else
        match base with
        | some ⟨b, 0, none⟩ => match h.get b with
          | some (.row cs e' (.rw bs olds)) =>
            bif len * n == cs.length && cap / 2 == len && Nat.beq e' e && decide (bs ≤ cs.length) then
              some (.slice (some ⟨h.next, 0, none⟩) (len + k) (2 * (len + k) + 1),
                (h.set b (.row cs e' .ro)).push (.row (cs ++ new) e (.rw cs.length (b :: olds))))
            else none
          | _ => none
        | _ => none
  | _ => none

def evCopy (P : Program) (t : TypeId) (d s : Value) (h : Hp) : Option (Value × Hp) :=
  match d with
  | .slice base dl _ => (tSliceElem P t).bind fun e => (tSize P e).bind fun n => (lenOf s).bind fun sl =>
    (evCells n (Nat.min sl dl) s h).bind fun cs => match base with
      | none => some (.int .i64 (Nat.min sl dl : Nat), h)
      | some ⟨b, o, none⟩ => bif cs.isEmpty then some (.int .i64 (Nat.min sl dl : Nat), h) else (writeAt h b o cs).map fun h => (.int .i64 (Nat.min sl dl : Nat), h)
      | _ => none
  | _ => none

/-- What a call does. -/
abbrev CallF := FuncId → List Value → Hp → Option (Value × Hp)

def evEffCall (P : Program) (call : CallF) (fr : Fr) (c : Call) (h : Hp) : Option (Value × Hp) :=
  match c.callee with
  | .builtin .delete => match c.args.toList, c.argTypes.toList with
    | [m, k], t :: _ => (ev1 fr m).bind fun m => (ev1 fr k).bind fun k => (evDelete P t m k h).map fun h => (.tuple #[], h)
    | _, _ => none
  | .builtin .append => match c.args.toList, c.argTypes.toList with
    | [s, x], t :: u :: _ => (ev1 fr s).bind fun s => (ev1 fr x).bind fun x => match P.underlying u with
      | some (.slice _) => evAppend P t s x h
      | some .string => evAppend P t s x h
      | _ => none
    | _, _ => none
  | .builtin .copy => match c.args.toList, c.argTypes.toList with
    | [d, s], t :: _ => (ev1 fr d).bind fun d => (ev1 fr s).bind fun s => evCopy P t d s h
    | _, _ => none
  | .value f => (ev1 fr f).bind fun
    | .func (.func g) first captured => (evs fr c.args.toList).bind fun vs => call g (first.toList ++ vs ++ captured.toList) h
    | _ => none
  | _ => none

def evEff (P : Program) (call : CallF) (fr : Fr) (o : Oper) (h : Hp) : Option (Value × Hp) :=
  match o.op with
  | .store t a x => (ev1 fr a).bind fun a => (ev1 fr x).bind fun v => (evStore P t a v h).map fun h => (undef, h)
  | .mapUpdate t m k x | .insert t m k x => (ev1 fr m).bind fun m => (ev1 fr k).bind fun k => (ev1 fr x).bind fun x => (evMapUpdate P t m k x h).map fun h => (undef, h)
  | .call c => evEffCall P call fr c h
  | _ => none

/-! ### regions -/
inductive Kd where
  | pure | read | new | eff
  deriving DecidableEq

/-- Of which kind an operation is: by its text alone. -/
def kindOf (P : Program) (o : Oper) : Kd :=
  match o.op with
  | .load .. | .lookup .. => .read
  | .convert s _ _ => bif (tSliceElem P s).isSome then .read else .pure
  | .call c => match c.callee with
    | .builtin .len => match c.argTypes.toList with
      | t :: _ => bif (tMap P t).isSome then .read else .pure
      | _ => .pure
    | .builtin .delete | .builtin .append | .builtin .copy | .value _ => .eff
    | _ => .pure
  | .binOp op t _ _ _ => match op with
    | .eql | .neq => bif evBin.tPtr P t then .read else .pure
    | _ => .pure
  | .alloc _ | .box .. | .buildSlice .. | .makeMap .. | .makeSlice .. => .new
  | .store .. | .mapUpdate .. | .insert .. => .eff
  | _ => .pure

/-- An operation that reads: pointers are compared where both are some; else it is one that looks at no memory. -/
def evReadOrPure (P : Program) (fr : Fr) (o : Oper) (h : Hp) : Option Value :=
  match evRead P fr o h with
  | some v => some v
  | none => evPure P fr o

def evOp (P : Program) (call : CallF) (fr : Fr) (o : Oper) (h : Hp) : Option (Value × Hp) :=
  match kindOf P o with
  | .pure => (evPure P fr o).map fun v => (v, h)
  | .read => (evReadOrPure P fr o h).map fun v => (v, h)
  | .new => (evNew P fr o).map fun (ob, mk) => (mk h.next, h.push ob)
  | .eff => evEff P call fr o h

def put (fr : Fr) (dst : Option Tmp) (v : Value) : Fr :=
  match dst with
  | some d => fr.set d v
  | none => fr

/-- Is the operation to be carried out? -/
def evWanted (ops : Array Oper) (fr : Fr) (o : Oper) : Option Bool :=
  match o.guard with
  | none => some true
  | some (j, want) => match ((ops[j]?).bind (·.dst)).bind fr.get with
    | some (.bool b) => some (b == want)
    | some (.tuple _) => some false
    | _ => none

def evOps (P : Program) (call : CallF) (ops : Array Oper) : List Oper → Fr → Hp → Option (Fr × Hp)
  | [], fr, h => some (fr, h)
  | o :: rest, fr, h => match evWanted ops fr o with
    | some true => match evOp P call fr o h with
      | some (v, h) => evOps P call ops rest (put fr o.dst v) h
      | none => none
    | some false => evOps P call ops rest (put fr o.dst undef) h
    | none => none

/-! ### code -/
inductive Ex where
  | norm
  | exit (id : Nat)
  | ret

abbrev Res := Option (Ex × Fr × Hp)

/-- A static look: each operation writes within the frame. -/
def codeOk (nt : Nat) (reg : Array Oper → Bool → Bool) : Code → Bool
  | .region _ ops draw => (ops.toList.all fun o => match o.dst with
    | some d => decide (d < nt)
    | none => true) && reg ops draw
  | .seq a b => codeOk nt reg a && codeOk nt reg b
  | .cond _ a b => codeOk nt reg a && codeOk nt reg b
  | .block _ a => codeOk nt reg a
  | .loop a => codeOk nt reg a
  | _ => true

def iter (body : Fr → Hp → Res) : Nat → Fr → Hp → Res
  | 0, _, _ => none
  | n + 1, fr, h => match body fr h with
    | some (.norm, fr, h) => iter body n fr h
    | r => r

/-- 'draws': how a region that draws its order is carried out. -/
def evCode (P : Program) (call : CallF) (draws : Nat → Array Oper → Fr → Hp → Option (Fr × Hp)) (fuel : Nat) : Code → Fr → Hp → Res
  | .skip, fr, h => some (.norm, fr, h)
  | .region id ops draw, fr, h =>
    match (bif draw then draws id ops fr h else evOps P call ops ops.toList fr h) with
    | some (fr, h) => some (.norm, fr, h)
    | none => none
  | .seq a b, fr, h => match evCode P call draws fuel a fr h with
    | some (.norm, fr, h) => evCode P call draws fuel b fr h
    | r => r
  | .cond c a b, fr, h => match ev1 fr c with
    | some (.bool true) => evCode P call draws fuel a fr h
    | some (.bool false) => evCode P call draws fuel b fr h
    | _ => none
  | .block id a, fr, h => match evCode P call draws fuel a fr h with
    | some (.exit j, fr, h) => bif Nat.beq j id then some (.norm, fr, h) else some (.exit j, fr, h)
    | r => r
  | .loop a, fr, h => iter (evCode P call draws fuel a) fuel fr h
  | .exit id, fr, h => some (.exit id, fr, h)
  | .ret, fr, h => some (.ret, fr, h)
  | _, _, _ => none

def evResult (P : Program) (fr : Fr) (h : Hp) : ResultVar → Option Value
  | .tmp t => fr.get t
  | .cell a t => (fr.get a).bind fun v => evLoad P t v h
def evResults (P : Program) (fr : Fr) (h : Hp) : List ResultVar → Option (List Value)
  | [] => some []
  | x :: l => (evResult P fr h x).bind fun v => (evResults P fr h l).bind fun vs => some (v :: vs)
def tupled : List Value → Value
  | [v] => v
  | vs => .tuple vs.toArray

structure Ctx where
  P : Program
  /-- the functions that may be entered -/
  mask : Nat
  /-- what is known of a call without entering it -/
  S : FuncId → Option (List Value → Hp → Option (Value × Hp))

/-! ### regions that draw their order -/
/-- Two values, held against each other. -/
def veqF : Nat → Value → Value → Bool
  | _, .bool a, .bool b => a == b
  | _, .int j a, .int k b => decide (j = k) && decide (a = b)
  | _, .float j a, .float k b => decide (j = k) && Nat.beq a b
  | _, .complex j a c, .complex k b d => decide (j = k) && Nat.beq a b && Nat.beq c d
  | _, .string a, .string b => a.data.toList == b.data.toList
  | _, .pointer a, .pointer b => decide (a = b)
  | _, .slice a l c, .slice b m d => decide (a = b) && Nat.beq l m && Nat.beq c d
  | _, .map a, .map b => decide (a = b)
  | _, .chan a, .chan b => decide (a = b)
  | n + 1, .func f x y, .func g u v => decide (f = g) && all2 (veqF n) x.toList u.toList && all2 (veqF n) y.toList v.toList
  | _, .nilFunc, .nilFunc => true
  | n + 1, .iface t v, .iface u w => Nat.beq t u && veqF n v w
  | _, .nilIface, .nilIface => true
  | n + 1, .agg a, .agg b => all2 (veqF n) a.toList b.toList
  | n + 1, .tuple a, .tuple b => all2 (veqF n) a.toList b.toList
  | _, _, _ => false
  where
  all2 (f : Value → Value → Bool) : List Value → List Value → Bool
    | [], [] => true
    | a :: l, b :: k => f a b && all2 f l k
    | _, _ => false
noncomputable section
def veq (a b : Value) : Bool := veqF (SizeOf.sizeOf a) a b

def bit (ms : Array Nat) (j i : Nat) : Bool := (ms.getD j 0).testBit i

/-- The order in which a region that draws is carried out: what makes a block comes as late as it may. -/
def schedGo (ms : Array Nat) (isNew : Nat → Bool) : List Nat → List Nat → List Nat
  | pend, [] => pend
  | pend, j :: rest => bif isNew j then schedGo ms isNew (pend ++ [j]) rest
    else pend.filter (bit ms j) ++ j :: schedGo ms isNew (pend.filter fun i => !bit ms j i) rest

def kindAt (P : Program) (ops : Array Oper) (j : Nat) : Kd := match ops[j]? with
  | some o => kindOf P o
  | none => .pure

def sched (P : Program) (ops : Array Oper) : List Nat :=
  schedGo (Region.before ops) (fun j => kindAt P ops j == .new) [] (List.range ops.size)

def tmpsIn : List Operand → List Tmp
  | [] => []
  | .tmp t :: l => t :: tmpsIn l
  | _ :: l => tmpsIn l
/-- The slots that an operation looks at. -/
def looks (ops : Array Oper) (o : Oper) : List Tmp :=
  tmpsIn o.op.operands.toList ++ (match o.guard with
    | some (j, _) => ((ops[j]?).bind (·.dst)).toList
    | none => [])
def dstAt (ops : Array Oper) (j : Nat) : Option Tmp := (ops[j]?).bind (·.dst)
def looksAt (ops : Array Oper) (j : Nat) : List Tmp := match ops[j]? with
  | some o => looks ops o
  | none => []
def conflict (ops : Array Oper) (i j : Nat) : Bool :=
  (match dstAt ops i with
    | some d => (looksAt ops j).contains d || dstAt ops j == some d
    | none => false) ||
  (match dstAt ops j with
    | some d => (looksAt ops i).contains d
    | none => false)

def pairsAll (f : Nat → Nat → Bool) : List Nat → Bool
  | [] => true
  | i :: l => l.all (f i) && pairsAll f l

/-- A static look at a region that draws. -/
def drawOk (P : Program) (ops : Array Oper) : Bool :=
  let ms := Region.before ops
  let L := sched P ops
  (List.range ops.size).all (fun i => L.contains i) && L.all (fun i => decide (i < ops.size)) &&
  (List.range ops.size).all (fun j => match ops[j]? with
    | some o => o.after.toList.all fun e => !Region.binds .any e || decide (e.on < j)
    | none => false) &&
  pairsAll (fun i j => !Nat.beq i j && (bit ms j i || !(conflict ops i j || (kindAt P ops j == .eff && (kindAt P ops i == .eff || kindAt P ops i == .new))))) L

structure Trc where
  fr : Fr
  h : Hp
  /-- the effects that have been carried out -/
  done : List Nat
  /-- what the heap was behind each effect, and which had been carried out by then -/
  bs : List (List Nat × Hp)
  /-- what was read -/
  rs : List (Nat × Fr × Value)

def trcStep (P : Program) (call : CallF) (ops : Array Oper) (s : Trc) (j : Nat) : Option Trc :=
  match ops[j]? with
  | none => none
  | some o => match evWanted ops s.fr o with
    | none => none
    | some false => bif kindOf P o == .eff then some { s with fr := put s.fr o.dst undef, done := j :: s.done, bs := (j :: s.done, s.h) :: s.bs }
      else some { s with fr := put s.fr o.dst undef }
    | some true => match evOp P call s.fr o s.h with
      | none => none
      | some (v, h) => match kindOf P o with
        | .eff => some { fr := put s.fr o.dst v, h := h, done := j :: s.done, bs := (j :: s.done, h) :: s.bs, rs := s.rs }
        | .read => some { s with fr := put s.fr o.dst v, h := h, rs := (j, s.fr, v) :: s.rs }
        | _ => some { s with fr := put s.fr o.dst v, h := h }

def trc (P : Program) (call : CallF) (ops : Array Oper) : List Nat → Trc → Option Trc
  | [], s => some s
  | j :: l, s => match trcStep P call ops s j with
    | some s => trc P call ops l s
    | none => none

/-- May a read be carried out at that point? -/
def adm (ms : Array Nat) (effs : List Nat) (i : Nat) (done : List Nat) : Bool :=
  effs.all (fun e => !bit ms i e || done.contains e) && done.all (fun e => !bit ms e i)

def readsOk (P : Program) (ops : Array Oper) (effs : List Nat) (s : Trc) : Bool :=
  s.rs.all fun (i, fr, v) => s.bs.all fun (done, h) => !adm (Region.before ops) effs i done ||
    (match ops[i]? with
      | some o => match evReadOrPure P fr o h with
        | some u => veq u v
        | none => false
      | none => false)

def evDraw (P : Program) (call : CallF) (_ : Nat) (ops : Array Oper) (fr : Fr) (h : Hp) : Option (Fr × Hp) :=
  match trc P call ops (sched P ops) { fr := fr, h := h, done := [], bs := [([], h)], rs := [] } with
  | some s => bif readsOk P ops ((List.range ops.size).filter fun j => kindAt P ops j == .eff) s then some (s.fr, s.h) else none
  | none => none

def regOk (P : Program) (ops : Array Oper) (draw : Bool) : Bool := !draw || drawOk P ops

def evCall (C : Ctx) : Nat → CallF
  | 0, _, _, _ => none
  | n + 1, f, args, h => match C.S f with
    | some s => s args h
    | none => bif !(C.mask.testBit f) then none else match C.P.funcs[f]? with
      | some fn => match fn.body with
        | some c => match evCode C.P (evCall C n) (evDraw C.P (evCall C n)) n c (Tr.ofList args 0 .e) h with
          | some (.norm, fr, h) | some (.ret, fr, h) => (evResults C.P fr h fn.results.toList).map fun vs => (tupled vs, h)
          | _ => none
        | none => none
      | none => none

end
end Go.Ev
