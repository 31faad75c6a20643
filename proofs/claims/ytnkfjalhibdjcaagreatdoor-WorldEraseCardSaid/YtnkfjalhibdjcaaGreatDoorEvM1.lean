/- Texts joined: what the claim needs of them. No condition. -/
import Derived.Tactics
import Derived.KernelRfl
import Derived.Below
import Derived.Laws.Tables
import Derived.Laws.BytesString
import Derived.Laws.Cells
import Derived.Laws.CopyRow
import Derived.IntWalk
namespace Go.Ev
open Go
set_option linter.unusedSimpArgs false
set_option linter.unusedVariables false
inductive Tr (α : Type) where
  | e
  | n (l : Tr α) (v : Option α) (r : Tr α)
namespace Tr
variable {α : Type}
def get : Tr α → Nat → Option α
  | .e, _ => none
  | .n l v r, k => match k with
    | 0 => v
    | j + 1 => bif Nat.beq (j % 2) 0 then l.get (j / 2) else r.get (j / 2)
def setF : Nat → Tr α → Nat → α → Tr α
  | 0, t, _, _ => t
  | f + 1, .e, k, a => match k with
    | 0 => .n .e (some a) .e
    | j + 1 => bif Nat.beq (j % 2) 0 then .n (setF f .e (j / 2) a) none .e else .n .e none (setF f .e (j / 2) a)
  | f + 1, .n l v r, k, a => match k with
    | 0 => .n l (some a) r
    | j + 1 => bif Nat.beq (j % 2) 0 then .n (setF f l (j / 2) a) v r else .n l v (setF f r (j / 2) a)
def set (t : Tr α) (k : Nat) (a : α) : Tr α := setF (k + 1) t k a
def ofList : List α → Nat → Tr α → Tr α
  | [], _, t => t
  | a :: l, k, t => ofList l (k + 1) (t.set k a)
end Tr
inductive St where
  | ro
  | rw (base : Nat) (olds : List Nat)
  | dead
inductive Ob where
  | row (cs : List Value) (el : TypeId) (st : St)
  | map (es : List MapEntry) (clock : Nat)
structure Hp where
  t : Tr Ob
  next : Nat
namespace Hp
def get (h : Hp) (b : Nat) : Option Ob := h.t.get b
def set (h : Hp) (b : Nat) (o : Ob) : Hp := { h with t := h.t.set b o }
def push (h : Hp) (o : Ob) : Hp := { t := h.t.set h.next o, next := h.next + 1 }
end Hp
def tSize (P : Program) (t : TypeId) : Option Nat := (P.info? t).map (·.size)
def tBytes (P : Program) (t : TypeId) : Option Nat := (P.info? t).map (·.bytes)
def tAgg (P : Program) (t : TypeId) : Option Bool := (P.underlying t).map fun
  | .struct _ => true
  | .array _ _ => true
  | _ => false
def tZero (P : Program) (t : TypeId) : Option Value := (P.info? t).bind (·.zero)
def tField (P : Program) (t : TypeId) (i : Nat) : Option (Nat × TypeId) :=
  match P.underlying t with
  | some (.struct fs) => match fs[i]? with
    | some f => some (f.offset, f.type)
    | none => none
  | _ => none
def tSliceElem (P : Program) (t : TypeId) : Option TypeId :=
  match P.underlying t with
  | some (.slice e) => some e
  | _ => none
def tArray (P : Program) (t : TypeId) : Option (Nat × TypeId) :=
  match P.underlying t with
  | some (.array n e) => some (n, e)
  | _ => none
def tMap (P : Program) (t : TypeId) : Option (TypeId × TypeId) :=
  match P.underlying t with
  | some (.map k e) => some (k, e)
  | _ => none
def tIface (P : Program) (t : TypeId) : Option Bool := (P.underlying t).map fun
  | .interface _ => true
  | _ => false
def tString (P : Program) (t : TypeId) : Option Bool := (P.underlying t).map fun
  | .string => true
  | _ => false
def scal : Value → Bool
  | .bool _ | .int _ _ | .float _ _ | .complex _ _ _ | .string _ | .nilFunc | .nilIface => true
  | .pointer none | .map none | .chan none => true
  | .slice none 0 0 => true
  | _ => false
def flat : Value → Bool
  | .agg cs => cs.toList.all scal
  | .tuple cs => cs.toList.all scal
  | .iface _ v => scal v
  | .func (.func _) f c => f.isEmpty && c.isEmpty
  | v => scal v
def isCell : Value → Bool
  | .agg _ | .tuple _ | .chan (some 0) => false
  | _ => true
def boxable : Value → Bool
  | .chan (some 0) => false
  | _ => true
def prun {α : Type} (P : Program) : Sem α → Option α
  | .pure a => some a
  | .program k => prun P (k P)
  | .mark _ k => prun P k
  | _ => none
def prunS (P : Program) (s : Sem Value) : Option Value := (prun P s).bind fun v => bif flat v then some v else none
abbrev Fr := Tr Value
def ev1 (fr : Fr) : Operand → Option Value
  | .tmp t => fr.get t
  | .const v => bif flat v then some v else none
  | .func f => some (.func (.func f) #[] #[])
  | .global _ => none
def evs (fr : Fr) : List Operand → Option (List Value)
  | [] => some []
  | x :: l => (ev1 fr x).bind fun v => (evs fr l).bind fun vs => some (v :: vs)
def asI : Value → Option Int
  | .int _ n => some n
  | _ => none
def evBin (P : Program) (op : BinOp) (t : TypeId) (xo yo : Operand) (x y : Value) : Option Value :=
  match flat x && flat y, op, x, y with
  | true, _, _, _ => prunS P (do eqGuard op t xo yo x y; binOp op t x y)
  | _, .eql, .pointer (some _), .pointer none => bif (tPtr P t) then some (.bool false) else none
  | _, .neq, .pointer (some _), .pointer none => bif (tPtr P t) then some (.bool true) else none
  | _, .eql, .pointer none, .pointer (some _) => bif (tPtr P t) then some (.bool false) else none
  | _, .neq, .pointer none, .pointer (some _) => bif (tPtr P t) then some (.bool true) else none
  | _, .eql, .slice (some _) _ _, .slice none _ _ => bif (tSliceElem P t).isSome then some (.bool false) else none
  | _, .neq, .slice (some _) _ _, .slice none _ _ => bif (tSliceElem P t).isSome then some (.bool true) else none
  | _, .eql, .map (some _), .map none => bif (tMap P t).isSome then some (.bool false) else none
  | _, .neq, .map (some _), .map none => bif (tMap P t).isSome then some (.bool true) else none
  | _, _, _, _ => none
  where
  tPtr (P : Program) (t : TypeId) : Bool := match P.underlying t with
    | some (.pointer _) => true
    | _ => false
def splice (cs : List Value) (o : Nat) (vs : List Value) : List Value := cs.take o ++ vs ++ cs.drop (o + vs.length)
def tPlaces (P : Program) (t : TypeId) : Option (List (Nat × Nat)) :=
  match P.underlying t with
  | some (.struct fs) => fs.toList.mapM fun f => (P.info? f.type).map fun i => (f.offset, i.size)
  | _ => none
def fillV (place : Nat → Option (Nat × Nat)) (cs : List Value) : List (Nat × Value) → Option (List Value)
  | [] => some cs
  | (i, v) :: rest => match place i with
    | some (off, size) => bif (v.cells.size == size) && decide (off + v.cells.size ≤ cs.length) && boxable v then fillV place (splice cs off v.cells.toList) rest else none
    | none => none
def evParts (fr : Fr) : List (Nat × Operand) → Option (List (Nat × Value))
  | [] => some []
  | (i, x) :: l => (ev1 fr x).bind fun v => (evParts fr l).bind fun vs => some ((i, v) :: vs)
def evBuild (P : Program) (t : TypeId) (parts : List (Nat × Value)) : Option Value :=
  (tZero P t).bind fun z => bif !flat z then none else match tPlaces P t, tArray P t with
    | some ps, _ => (fillV (fun i => ps[i]?) z.cells.toList parts).map fun cs => .agg cs.toArray
    | none, some (_, e) => (tSize P e).bind fun n => (fillV (fun i => some (i * n, n)) z.cells.toList parts).map fun cs => .agg cs.toArray
    | none, none => none
def evPart (P : Program) (t : TypeId) (cs : List Value) (off : Nat) : Option Value :=
  match tAgg P t with
  | some true => (tSize P t).bind fun n => bif decide (off + n ≤ cs.length) then some (.agg ((cs.drop off).take n).toArray) else none
  | some false => cs[off]?
  | none => none
def evField (P : Program) (t : TypeId) (v : Value) (i : Nat) : Option Value :=
  match v, tField P t i with
  | .agg cs, some (off, ft) => evPart P ft cs.toList off
  | _, _ => none
def evFieldAddr (P : Program) (t : TypeId) (v : Value) (i : Nat) : Option Value :=
  match v, tField P t i with
  | .pointer (some ⟨b, o, none⟩), some (off, ft) => match tSize P ft with
    | some (_ + 1) => some (.pointer (some ⟨b, o + off, none⟩))
    | _ => none
  | _, _ => none
def evIndexAddr (P : Program) (t : TypeId) (x ix : Value) : Option Value :=
  match x, ix with
  | .slice (some ⟨b, o, none⟩) len _, .int _ i => (tSliceElem P t).bind fun e => (tSize P e).bind fun n =>
    bif decide (0 ≤ i) && decide (i < len) then some (.pointer (some ⟨b, o + i.toNat * n, none⟩)) else none
  | .pointer (some ⟨b, o, none⟩), .int _ i => (tArray P t).bind fun (len, e) => (tSize P e).bind fun n =>
    bif decide (0 ≤ i) && decide (i < len) then some (.pointer (some ⟨b, o + i.toNat * n, none⟩)) else none
  | _, _ => none
def evIndex (P : Program) (t : TypeId) (x ix : Value) : Option Value :=
  match x, ix with
  | .string s, .int _ i => bif (tString P t == some true) && decide (0 ≤ i) then (s[i.toNat]?).map fun b => .int .u8 b.toNat else none
  | .agg cs, .int _ i => (tArray P t).bind fun (len, e) => (tSize P e).bind fun n =>
    bif decide (0 ≤ i) && decide (i < len) then evPart P e cs.toList (i.toNat * n) else none
  | _, _ => none
def bound (x : Option Value) (d lim : Nat) : Option Nat :=
  match x with
  | none => some d
  | some (.int _ i) => bif decide (0 ≤ i) && decide (i ≤ lim) then some i.toNat else none
  | some _ => none
def evSlice (P : Program) (t : TypeId) (x : Value) (lo hi mx : Option Value) : Option Value :=
  match x with
  | .string s => bif (tString P t == some true) && mx.isNone then
      (bound hi s.size s.size).bind fun h => (bound lo 0 h).bind fun l => some (.string (s.extract l h)) else none
  | .slice a len cap => (tSliceElem P t).bind fun e => (tSize P e).bind fun n =>
    match mx with
    | none => (bound hi len (cap / 2)).bind fun h => (bound lo 0 h).bind fun l =>
      some (.slice (a.map fun a => ⟨a.block, a.off + l * n, none⟩) (h - l) (2 * (cap / 2 - l) + cap % 2))
    | some m => match m with
      | .int _ _ => (bound (some m) 0 (cap / 2)).bind fun m => (bound hi len m).bind fun h => (bound lo 0 h).bind fun l =>
        bif hi.isNone then none else some (.slice (a.map fun a => if m = l then a else ⟨a.block, a.off + l * n, none⟩) (h - l) (2 * (m - l)))
      | _ => none
  | _ => none
def evPureCall (P : Program) (fr : Fr) (c : Call) (ty : TypeId) : Option Value :=
  match c.callee with
  | .builtin .len => match c.args.toList, c.argTypes.toList with
    | [x], t :: _ => (ev1 fr x).bind fun
      | .string s => bif tString P t == some true then some (.int .i64 s.size) else none
      | .slice _ n _ => bif (tSliceElem P t).isSome then some (.int .i64 n) else none
      | _ => none
    | _, _ => none
  | .builtin .max => (evs fr c.args.toList).bind fun vs => bif vs.all scal then prunS P (Builtin.max_ c.argTypes ty vs.toArray) else none
  | .builtin .min => (evs fr c.args.toList).bind fun vs => bif vs.all scal then prunS P (Builtin.min_ c.argTypes ty vs.toArray) else none
  | _ => none
def evPure (P : Program) (fr : Fr) (o : Oper) : Option Value :=
  match o.op with
  | .move x | .assign x => ev1 fr x
  | .pick c a b => (ev1 fr c).bind fun
    | .bool true => ev1 fr a
    | .bool false => ev1 fr b
    | _ => none
  | .build t parts => (evParts fr parts.toList).bind (evBuild P t)
  | .nilCheck x => (ev1 fr x).bind fun
    | .pointer (some a) => some (.pointer (some a))
    | _ => none
  | .binOp op t x y _ => (ev1 fr x).bind fun a => (ev1 fr y).bind fun b => evBin P op t x y a b
  | .unOp op _ x => (ev1 fr x).bind fun a => bif scal a then prunS P (Op.unary op a) else none
  | .convert s d x => (ev1 fr x).bind fun a => bif scal a then prunS P (convert s d a) else none
  | .makeInterface t x => (ev1 fr x).bind fun a => bif tIface P t == some false then some (.iface t a) else none
  | .makeFunc (.func f) first captured => (evs fr first.toList).bind fun fs => (evs fr captured.toList).bind fun cs => some (.func (.func f) fs.toArray cs.toArray)
  | .fieldAddr t x i => (ev1 fr x).bind fun a => evFieldAddr P t a i
  | .field t x i => (ev1 fr x).bind fun a => evField P t a i
  | .indexAddr t x i => (ev1 fr x).bind fun a => (ev1 fr i).bind fun b => evIndexAddr P t a b
  | .index t x i => (ev1 fr x).bind fun a => (ev1 fr i).bind fun b => evIndex P t a b
  | .slice t x lo hi mx => (ev1 fr x).bind fun a => (opt fr lo).bind fun lo => (opt fr hi).bind fun hi => (opt fr mx).bind fun mx => evSlice P t a lo hi mx
  | .extract x i => (ev1 fr x).bind fun
    | .tuple vs => vs[i]?
    | _ => none
  | .call c => evPureCall P fr c o.type
  | _ => none
  where
  opt (fr : Fr) : Option Operand → Option (Option Value)
    | none => some none
    | some x => (ev1 fr x).map some
def rowOf (h : Hp) (b : Nat) : Option (List Value) :=
  match h.get b with
  | some (.row _ _ .dead) => none
  | some (.row cs _ _) => some cs
  | _ => none
def evLoad (P : Program) (t : TypeId) (v : Value) (h : Hp) : Option Value :=
  match v with
  | .pointer (some ⟨b, o, none⟩) => (rowOf h b).bind fun cs => evPart P t cs o
  | _ => none
def evCells (size n : Nat) (v : Value) (h : Hp) : Option (List Value) :=
  match v with
  | .slice none _ _ => some []
  | .slice (some ⟨b, o, none⟩) _ _ => bif n * size == 0 then some [] else (rowOf h b).bind fun cs =>
    bif decide (o + n * size ≤ cs.length) then some ((cs.drop o).take (n * size)) else none
  | .string s => some ((s.extract 0 n).data.toList.map fun b => .int .u8 b.toNat)
  | _ => none
def toBytes : List Value → Option (List UInt8)
  | [] => some []
  | .int .u8 n :: l => (toBytes l).map (UInt8.ofNat n.toNat :: ·)
  | _ :: _ => none
def mapOf (h : Hp) (v : Value) : Option (List MapEntry) :=
  match v with
  | .map none => some []
  | .map (some r) => match h.get r with
    | some (.map es _) => some es
    | _ => none
  | _ => none
def evLookup (P : Program) (t : TypeId) (m k : Value) (ok : Bool) (h : Hp) : Option Value :=
  (tMap P t).bind fun (kt, et) => bif !flat k then none else
    (mapOf h m).bind fun es => (prun P (do Instr.checkKey es.isEmpty 10000 kt k; Instr.findKey kt k es)).bind fun
      | some (_, v) => some (bif ok then .tuple #[v, .bool true] else v)
      | none => (tZero P et).bind fun z => bif flat z then some (bif ok then .tuple #[z, .bool false] else z) else none
def evReadCall (P : Program) (fr : Fr) (c : Call) (h : Hp) : Option Value :=
  match c.callee with
  | .builtin .len => match c.args.toList, c.argTypes.toList with
    | [x], t :: _ => (ev1 fr x).bind fun v => bif (tMap P t).isNone then none else (mapOf h v).map fun es => .int .i64 es.length
    | _, _ => none
  | _ => none
def evRead (P : Program) (fr : Fr) (o : Oper) (h : Hp) : Option Value :=
  match o.op with
  | .load t x => (ev1 fr x).bind fun a => evLoad P t a h
  | .lookup t x i ok => (ev1 fr x).bind fun a => (ev1 fr i).bind fun b => evLookup P t a b ok h
  | .convert s d x => (ev1 fr x).bind fun
    | .slice a n c => (tSliceElem P s).bind fun e => match P.underlying e, tString P d with
      | some (.int .u8), some true => (evCells 1 n (.slice a n c) h).bind fun cs => (toBytes cs).map fun l => .string ⟨l.toArray⟩
      | _, _ => none
    | _ => none
  | .call c => evReadCall P fr c h
  | .binOp op t x y _ => (ev1 fr x).bind fun a => (ev1 fr y).bind fun b => match op, a, b with
    | .eql, .pointer (some ⟨a, i, none⟩), .pointer (some ⟨b, j, none⟩) => bif tPtr P t && alive h a && alive h b then some (.bool (a == b && i == j)) else none
    | .neq, .pointer (some ⟨a, i, none⟩), .pointer (some ⟨b, j, none⟩) => bif tPtr P t && alive h a && alive h b then some (.bool !(a == b && i == j)) else none
    | _, _, _ => none
  | _ => none
  where
  alive (h : Hp) (b : Nat) : Bool := match h.get b with
    | some (.row _ _ (.rw 0 [])) => true
    | _ => false
  tPtr (P : Program) (t : TypeId) : Bool := match P.underlying t with
    | some (.pointer e) => match tSize P e with
      | some (_ + 1) => true
      | _ => false
    | _ => false
def evNew (P : Program) (fr : Fr) (o : Oper) : Option (Ob × (Nat → Value)) :=
  match o.op with
  | .alloc t => (tZero P t).bind fun z => bif !flat z then none else some (.row z.cells.toList t (.rw 0 []), fun b => .pointer (some ⟨b, 0, none⟩))
  | .box t x => (ev1 fr x).bind fun v => bif boxable v then some (.row v.cells.toList t (.rw 0 []), fun b => .pointer (some ⟨b, 0, none⟩)) else none
  | .buildSlice t len parts => (tSliceElem P t).bind fun e => (tSize P e).bind fun n => (tZero P e).bind fun z =>
    bif decide (len * n ≤ 2 ^ 24) && (z.cells.size == n) && flat z then
      (evParts fr parts.toList).bind fun ps => (fillV (fun i => some (i * n, n)) (List.replicate len z.cells.toList).flatten ps).map fun cs =>
        (.row cs e (.rw 0 []), fun b => .slice (some ⟨b, 0, none⟩) len (2 * len))
    else none
  | .makeMap t r => bif (tMap P t).isSome && r.isNone then some (.map [] 0, fun b => .map (some b)) else none
  | .makeSlice t l c => (ev1 fr l).bind fun l => (ev1 fr c).bind fun c => match l, c with
    | .int .i64 l, .int .i64 c => (tSliceElem P t).bind fun e => (tSize P e).bind fun n => (tBytes P e).bind fun by_ => (tZero P e).bind fun z =>
      bif decide (0 ≤ l) && decide (l ≤ c) && decide (c * (by_ + 1) ≤ 2 ^ 47) && (z.cells.size == n) && flat z then
        some (.row (List.replicate c.toNat z.cells.toList).flatten e (.rw 0 []), fun b => .slice (some ⟨b, 0, none⟩) l.toNat (2 * c.toNat))
      else none
    | _, _ => none
  | _ => none
def kill1 (h : Hp) (b : Nat) : Hp :=
  match h.get b with
  | some (.row cs e _) => h.set b (.row cs e .dead)
  | _ => h
def kill (h : Hp) : List Nat → Hp
  | [] => h
  | b :: l => kill (kill1 h b) l
def writeAt (h : Hp) (b o : Nat) (vs : List Value) : Option Hp :=
  match h.get b with
  | some (.row cs e (.rw base olds)) =>
    bif decide (o + vs.length ≤ cs.length) && vs.all isCell then
      bif decide (base ≤ o) then some (h.set b (.row (splice cs o vs) e (.rw base olds)))
      else some ((kill h olds).set b (.row (splice cs o vs) e (.rw 0 [])))
    else none
  | _ => none
def evStore (P : Program) (t : TypeId) (a v : Value) (h : Hp) : Option Hp :=
  match a with
  | .pointer (some ⟨b, o, none⟩) => bif tSize P t == some v.cells.size then writeAt h b o v.cells.toList else none
  | _ => none
def evMapUpdate (P : Program) (t : TypeId) (m k v : Value) (h : Hp) : Option Hp :=
  match tMap P t, m with
  | some (kt, _), .map (some r) => match h.get r with
    | some (.map es clock) => bif !flat k then none else
      (prun P (do Instr.checkKey false 10000 kt k; Instr.findKey kt k es)).bind fun
        | some (i, _) => match es[i]? with
          | some e => bif Instr.sameBits 10000 e.key k then some (h.set r (.map (es.set i { e with key := k, val := v }) clock)) else none
          | none => none
        | none => some (h.set r (.map (es ++ [{ key := k, val := v, born := clock }]) (clock + 1)))
    | _ => none
  | _, _ => none
def evDelete (P : Program) (t : TypeId) (m k : Value) (h : Hp) : Option Hp :=
  match tMap P t, m with
  | some (kt, _), .map (some r) => match h.get r with
    | some (.map es clock) => bif !flat k then none else
      (prun P (do Instr.checkKey es.isEmpty 10000 kt k; Instr.findKey kt k es)).bind fun
        | some (i, _) => some (h.set r (.map (es.eraseIdx i) clock))
        | none => some h
    | _ => none
  | _, _ => none
def lenOf : Value → Option Nat
  | .slice _ n _ => some n
  | .string s => some s.size
  | _ => none
def evAppend (P : Program) (t : TypeId) (s x : Value) (h : Hp) : Option (Value × Hp) :=
  match s with
  | .slice base len cap => (tSliceElem P t).bind fun e => (tSize P e).bind fun n => (tBytes P e).bind fun by_ => (tZero P e).bind fun z => (lenOf x).bind fun k =>
    bif !((z.cells.size == n) && flat z) then none else
    bif k == 0 then some (s, h) else
    (evCells n k x h).bind fun new =>
    bif !(new.all isCell) || !decide ((2 * (len + k) + 1024) * (by_ + 1) ≤ 2 ^ 47) || !Nat.beq new.length (k * n) then none else
    bif decide (len + k ≤ cap / 2) then
      match base with
      | some ⟨b, o, none⟩ => (writeAt h b (o + len * n) new).map fun h => (.slice base (len + k) cap, h)
      | _ => none
    else
      bif cap % 2 == 0 then
        (evCells n len s h).map fun old => (.slice (some ⟨h.next, 0, none⟩) (len + k) (2 * (len + k) + 1), h.push (.row (old ++ new) e (.rw 0 [])))
      else
        match base with
        | some ⟨b, 0, none⟩ => match h.get b with
          | some (.row cs e' (.rw bs olds)) =>
            bif len * n == cs.length && cap / 2 == len && Nat.beq e' e && decide (bs ≤ cs.length) then
              some (.slice (some ⟨h.next, 0, none⟩) (len + k) (2 * (len + k) + 1),
                (h.set b (.row cs e' .ro)).push (.row (cs ++ new) e (.rw cs.length (b :: olds))))
            else none
          | _ => none
        | _ => none
  | _ => none
def evCopy (P : Program) (t : TypeId) (d s : Value) (h : Hp) : Option (Value × Hp) :=
  match d with
  | .slice base dl _ => (tSliceElem P t).bind fun e => (tSize P e).bind fun n => (lenOf s).bind fun sl =>
    (evCells n (Nat.min sl dl) s h).bind fun cs => match base with
      | none => some (.int .i64 (Nat.min sl dl : Nat), h)
      | some ⟨b, o, none⟩ => bif cs.isEmpty then some (.int .i64 (Nat.min sl dl : Nat), h) else (writeAt h b o cs).map fun h => (.int .i64 (Nat.min sl dl : Nat), h)
      | _ => none
  | _ => none
abbrev CallF := FuncId → List Value → Hp → Option (Value × Hp)
def evEffCall (P : Program) (call : CallF) (fr : Fr) (c : Call) (h : Hp) : Option (Value × Hp) :=
  match c.callee with
  | .builtin .delete => match c.args.toList, c.argTypes.toList with
    | [m, k], t :: _ => (ev1 fr m).bind fun m => (ev1 fr k).bind fun k => (evDelete P t m k h).map fun h => (.tuple #[], h)
    | _, _ => none
  | .builtin .append => match c.args.toList, c.argTypes.toList with
    | [s, x], t :: u :: _ => (ev1 fr s).bind fun s => (ev1 fr x).bind fun x => match P.underlying u with
      | some (.slice _) => evAppend P t s x h
      | some .string => evAppend P t s x h
      | _ => none
    | _, _ => none
  | .builtin .copy => match c.args.toList, c.argTypes.toList with
    | [d, s], t :: _ => (ev1 fr d).bind fun d => (ev1 fr s).bind fun s => evCopy P t d s h
    | _, _ => none
  | .value f => (ev1 fr f).bind fun
    | .func (.func g) first captured => (evs fr c.args.toList).bind fun vs => call g (first.toList ++ vs ++ captured.toList) h
    | _ => none
  | _ => none
def evEff (P : Program) (call : CallF) (fr : Fr) (o : Oper) (h : Hp) : Option (Value × Hp) :=
  match o.op with
  | .store t a x => (ev1 fr a).bind fun a => (ev1 fr x).bind fun v => (evStore P t a v h).map fun h => (undef, h)
  | .mapUpdate t m k x | .insert t m k x => (ev1 fr m).bind fun m => (ev1 fr k).bind fun k => (ev1 fr x).bind fun x => (evMapUpdate P t m k x h).map fun h => (undef, h)
  | .call c => evEffCall P call fr c h
  | _ => none
inductive Kd where
  | pure | read | new | eff
  deriving DecidableEq
def kindOf (P : Program) (o : Oper) : Kd :=
  match o.op with
  | .load .. | .lookup .. => .read
  | .convert s _ _ => bif (tSliceElem P s).isSome then .read else .pure
  | .call c => match c.callee with
    | .builtin .len => match c.argTypes.toList with
      | t :: _ => bif (tMap P t).isSome then .read else .pure
      | _ => .pure
    | .builtin .delete | .builtin .append | .builtin .copy | .value _ => .eff
    | _ => .pure
  | .binOp op t _ _ _ => match op with
    | .eql | .neq => bif evBin.tPtr P t then .read else .pure
    | _ => .pure
  | .alloc _ | .box .. | .buildSlice .. | .makeMap .. | .makeSlice .. => .new
  | .store .. | .mapUpdate .. | .insert .. => .eff
  | _ => .pure
def evReadOrPure (P : Program) (fr : Fr) (o : Oper) (h : Hp) : Option Value :=
  match evRead P fr o h with
  | some v => some v
  | none => evPure P fr o
def evOp (P : Program) (call : CallF) (fr : Fr) (o : Oper) (h : Hp) : Option (Value × Hp) :=
  match kindOf P o with
  | .pure => (evPure P fr o).map fun v => (v, h)
  | .read => (evReadOrPure P fr o h).map fun v => (v, h)
  | .new => (evNew P fr o).map fun (ob, mk) => (mk h.next, h.push ob)
  | .eff => evEff P call fr o h
def put (fr : Fr) (dst : Option Tmp) (v : Value) : Fr :=
  match dst with
  | some d => fr.set d v
  | none => fr
def evWanted (ops : Array Oper) (fr : Fr) (o : Oper) : Option Bool :=
  match o.guard with
  | none => some true
  | some (j, want) => match ((ops[j]?).bind (·.dst)).bind fr.get with
    | some (.bool b) => some (b == want)
    | some (.tuple _) => some false
    | _ => none
def evOps (P : Program) (call : CallF) (ops : Array Oper) : List Oper → Fr → Hp → Option (Fr × Hp)
  | [], fr, h => some (fr, h)
  | o :: rest, fr, h => match evWanted ops fr o with
    | some true => match evOp P call fr o h with
      | some (v, h) => evOps P call ops rest (put fr o.dst v) h
      | none => none
    | some false => evOps P call ops rest (put fr o.dst undef) h
    | none => none
inductive Ex where
  | norm
  | exit (id : Nat)
  | ret
abbrev Res := Option (Ex × Fr × Hp)
def codeOk (nt : Nat) (reg : Array Oper → Bool → Bool) : Code → Bool
  | .region _ ops draw => (ops.toList.all fun o => match o.dst with
    | some d => decide (d < nt)
    | none => true) && reg ops draw
  | .seq a b => codeOk nt reg a && codeOk nt reg b
  | .cond _ a b => codeOk nt reg a && codeOk nt reg b
  | .block _ a => codeOk nt reg a
  | .loop a => codeOk nt reg a
  | _ => true
def iter (body : Fr → Hp → Res) : Nat → Fr → Hp → Res
  | 0, _, _ => none
  | n + 1, fr, h => match body fr h with
    | some (.norm, fr, h) => iter body n fr h
    | r => r
def evCode (P : Program) (call : CallF) (draws : Nat → Array Oper → Fr → Hp → Option (Fr × Hp)) (fuel : Nat) : Code → Fr → Hp → Res
  | .skip, fr, h => some (.norm, fr, h)
  | .region id ops draw, fr, h =>
    match (bif draw then draws id ops fr h else evOps P call ops ops.toList fr h) with
    | some (fr, h) => some (.norm, fr, h)
    | none => none
  | .seq a b, fr, h => match evCode P call draws fuel a fr h with
    | some (.norm, fr, h) => evCode P call draws fuel b fr h
    | r => r
  | .cond c a b, fr, h => match ev1 fr c with
    | some (.bool true) => evCode P call draws fuel a fr h
    | some (.bool false) => evCode P call draws fuel b fr h
    | _ => none
  | .block id a, fr, h => match evCode P call draws fuel a fr h with
    | some (.exit j, fr, h) => bif Nat.beq j id then some (.norm, fr, h) else some (.exit j, fr, h)
    | r => r
  | .loop a, fr, h => iter (evCode P call draws fuel a) fuel fr h
  | .exit id, fr, h => some (.exit id, fr, h)
  | .ret, fr, h => some (.ret, fr, h)
  | _, _, _ => none
def evResult (P : Program) (fr : Fr) (h : Hp) : ResultVar → Option Value
  | .tmp t => fr.get t
  | .cell a t => (fr.get a).bind fun v => evLoad P t v h
def evResults (P : Program) (fr : Fr) (h : Hp) : List ResultVar → Option (List Value)
  | [] => some []
  | x :: l => (evResult P fr h x).bind fun v => (evResults P fr h l).bind fun vs => some (v :: vs)
def tupled : List Value → Value
  | [v] => v
  | vs => .tuple vs.toArray
structure Ctx where
  P : Program
  /-- the functions that may be entered -/
  mask : Nat
  /-- what is known of a call without entering it -/
  S : FuncId → Option (List Value → Hp → Option (Value × Hp))
def veqF : Nat → Value → Value → Bool
  | _, .bool a, .bool b => a == b
  | _, .int j a, .int k b => decide (j = k) && decide (a = b)
  | _, .float j a, .float k b => decide (j = k) && Nat.beq a b
  | _, .complex j a c, .complex k b d => decide (j = k) && Nat.beq a b && Nat.beq c d
  | _, .string a, .string b => a.data.toList == b.data.toList
  | _, .pointer a, .pointer b => decide (a = b)
  | _, .slice a l c, .slice b m d => decide (a = b) && Nat.beq l m && Nat.beq c d
  | _, .map a, .map b => decide (a = b)
  | _, .chan a, .chan b => decide (a = b)
  | n + 1, .func f x y, .func g u v => decide (f = g) && all2 (veqF n) x.toList u.toList && all2 (veqF n) y.toList v.toList
  | _, .nilFunc, .nilFunc => true
  | n + 1, .iface t v, .iface u w => Nat.beq t u && veqF n v w
  | _, .nilIface, .nilIface => true
  | n + 1, .agg a, .agg b => all2 (veqF n) a.toList b.toList
  | n + 1, .tuple a, .tuple b => all2 (veqF n) a.toList b.toList
  | _, _, _ => false
  where
  all2 (f : Value → Value → Bool) : List Value → List Value → Bool
    | [], [] => true
    | a :: l, b :: k => f a b && all2 f l k
    | _, _ => false
noncomputable section
def veq (a b : Value) : Bool := veqF (SizeOf.sizeOf a) a b
def bit (ms : Array Nat) (j i : Nat) : Bool := (ms.getD j 0).testBit i
def schedGo (ms : Array Nat) (isNew : Nat → Bool) : List Nat → List Nat → List Nat
  | pend, [] => pend
  | pend, j :: rest => bif isNew j then schedGo ms isNew (pend ++ [j]) rest
    else pend.filter (bit ms j) ++ j :: schedGo ms isNew (pend.filter fun i => !bit ms j i) rest
def kindAt (P : Program) (ops : Array Oper) (j : Nat) : Kd := match ops[j]? with
  | some o => kindOf P o
  | none => .pure
def sched (P : Program) (ops : Array Oper) : List Nat :=
  schedGo (Region.before ops) (fun j => kindAt P ops j == .new) [] (List.range ops.size)
def tmpsIn : List Operand → List Tmp
  | [] => []
  | .tmp t :: l => t :: tmpsIn l
  | _ :: l => tmpsIn l
def looks (ops : Array Oper) (o : Oper) : List Tmp :=
  tmpsIn o.op.operands.toList ++ (match o.guard with
    | some (j, _) => ((ops[j]?).bind (·.dst)).toList
    | none => [])
def dstAt (ops : Array Oper) (j : Nat) : Option Tmp := (ops[j]?).bind (·.dst)
def looksAt (ops : Array Oper) (j : Nat) : List Tmp := match ops[j]? with
  | some o => looks ops o
  | none => []
def conflict (ops : Array Oper) (i j : Nat) : Bool :=
  (match dstAt ops i with
    | some d => (looksAt ops j).contains d || dstAt ops j == some d
    | none => false) ||
  (match dstAt ops j with
    | some d => (looksAt ops i).contains d
    | none => false)
def pairsAll (f : Nat → Nat → Bool) : List Nat → Bool
  | [] => true
  | i :: l => l.all (f i) && pairsAll f l
def drawOk (P : Program) (ops : Array Oper) : Bool :=
  let ms := Region.before ops
  let L := sched P ops
  (List.range ops.size).all (fun i => L.contains i) && L.all (fun i => decide (i < ops.size)) &&
  (List.range ops.size).all (fun j => match ops[j]? with
    | some o => o.after.toList.all fun e => !Region.binds .any e || decide (e.on < j)
    | none => false) &&
  pairsAll (fun i j => !Nat.beq i j && (bit ms j i || !(conflict ops i j || (kindAt P ops j == .eff && (kindAt P ops i == .eff || kindAt P ops i == .new))))) L
structure Trc where
  fr : Fr
  h : Hp
  /-- the effects that have been carried out -/
  done : List Nat
  /-- what the heap was behind each effect, and which had been carried out by then -/
  bs : List (List Nat × Hp)
  /-- what was read -/
  rs : List (Nat × Fr × Value)
def trcStep (P : Program) (call : CallF) (ops : Array Oper) (s : Trc) (j : Nat) : Option Trc :=
  match ops[j]? with
  | none => none
  | some o => match evWanted ops s.fr o with
    | none => none
    | some false => bif kindOf P o == .eff then some { s with fr := put s.fr o.dst undef, done := j :: s.done, bs := (j :: s.done, s.h) :: s.bs }
      else some { s with fr := put s.fr o.dst undef }
    | some true => match evOp P call s.fr o s.h with
      | none => none
      | some (v, h) => match kindOf P o with
        | .eff => some { fr := put s.fr o.dst v, h := h, done := j :: s.done, bs := (j :: s.done, h) :: s.bs, rs := s.rs }
        | .read => some { s with fr := put s.fr o.dst v, h := h, rs := (j, s.fr, v) :: s.rs }
        | _ => some { s with fr := put s.fr o.dst v, h := h }
def trc (P : Program) (call : CallF) (ops : Array Oper) : List Nat → Trc → Option Trc
  | [], s => some s
  | j :: l, s => match trcStep P call ops s j with
    | some s => trc P call ops l s
    | none => none
def adm (ms : Array Nat) (effs : List Nat) (i : Nat) (done : List Nat) : Bool :=
  effs.all (fun e => !bit ms i e || done.contains e) && done.all (fun e => !bit ms e i)
def readsOk (P : Program) (ops : Array Oper) (effs : List Nat) (s : Trc) : Bool :=
  s.rs.all fun (i, fr, v) => s.bs.all fun (done, h) => !adm (Region.before ops) effs i done ||
    (match ops[i]? with
      | some o => match evReadOrPure P fr o h with
        | some u => veq u v
        | none => false
      | none => false)
def evDraw (P : Program) (call : CallF) (_ : Nat) (ops : Array Oper) (fr : Fr) (h : Hp) : Option (Fr × Hp) :=
  match trc P call ops (sched P ops) { fr := fr, h := h, done := [], bs := [([], h)], rs := [] } with
  | some s => bif readsOk P ops ((List.range ops.size).filter fun j => kindAt P ops j == .eff) s then some (s.fr, s.h) else none
  | none => none
def regOk (P : Program) (ops : Array Oper) (draw : Bool) : Bool := !draw || drawOk P ops
def evCall (C : Ctx) : Nat → CallF
  | 0, _, _, _ => none
  | n + 1, f, args, h => match C.S f with
    | some s => s args h
    | none => bif !(C.mask.testBit f) then none else match C.P.funcs[f]? with
      | some fn => match fn.body with
        | some c => match evCode C.P (evCall C n) (evDraw C.P (evCall C n)) n c (Tr.ofList args 0 .e) h with
          | some (.norm, fr, h) | some (.ret, fr, h) => (evResults C.P fr h fn.results.toList).map fun vs => (tupled vs, h)
          | _ => none
        | none => none
      | none => none
end
end Go.Ev
namespace Go.Ev
open Go
set_option linter.unusedSimpArgs false
set_option linter.unusedVariables false
namespace Tr
variable {α : Type}
theorem get_setF (f : Nat) : ∀ (t : Tr α) (k : Nat) (a : α) (j : Nat), k < f → (setF f t k a).get j = if j = k then some a else t.get j := by
  induction f with
  | zero => intro t k a j h; omega
  | succ f ih =>
    intro t k a j h
    cases t with
    | e =>
      cases k with
      | zero => cases j with
        | zero => simp [setF, get]
        | succ j => simp [setF, get]
      | succ k =>
        cases j with
        | zero =>
          simp only [setF]
          cases hk : Nat.beq (k % 2) 0 <;> simp [get]
        | succ j =>
          simp only [setF]
          cases hk : Nat.beq (k % 2) 0 <;> cases hj : Nat.beq (j % 2) 0 <;>
            simp only [cond_true, cond_false, get, hj, ih _ _ _ _ (show k / 2 < f by omega)] <;>
            (try (have hk' : k % 2 ≠ 0 := by intro h; rw [h] at hk; cases hk)) <;>
            (try (have hj' : j % 2 ≠ 0 := by intro h; rw [h] at hj; cases hj)) <;>
            (try (have hk'' : k % 2 = 0 := by simpa using hk)) <;>
            (try (have hj'' : j % 2 = 0 := by simpa using hj)) <;>
            (by_cases hh : j = k <;> first
              | (subst hh; first | (exfalso; omega) | simp)
              | (rw [if_neg (by omega), if_neg (by omega)])
              | (rw [if_neg (by omega)]))
    | n l v r =>
      cases k with
      | zero => cases j with
        | zero => simp [setF, get]
        | succ j => simp [setF, get]
      | succ k =>
        cases j with
        | zero =>
          simp only [setF]
          cases hk : Nat.beq (k % 2) 0 <;> simp [get]
        | succ j =>
          simp only [setF]
          cases hk : Nat.beq (k % 2) 0 <;> cases hj : Nat.beq (j % 2) 0 <;>
            simp only [cond_true, cond_false, get, hj, ih _ _ _ _ (show k / 2 < f by omega)] <;>
            (try (have hk' : k % 2 ≠ 0 := by intro h; rw [h] at hk; cases hk)) <;>
            (try (have hj' : j % 2 ≠ 0 := by intro h; rw [h] at hj; cases hj)) <;>
            (try (have hk'' : k % 2 = 0 := by simpa using hk)) <;>
            (try (have hj'' : j % 2 = 0 := by simpa using hj)) <;>
            (by_cases hh : j = k <;> first
              | (subst hh; first | (exfalso; omega) | simp)
              | (rw [if_neg (by omega), if_neg (by omega)])
              | (rw [if_neg (by omega)]))
theorem get_set (t : Tr α) (k : Nat) (a : α) (j : Nat) : (t.set k a).get j = if j = k then some a else t.get j :=
  get_setF (k + 1) t k a j (Nat.lt_succ_self k)
theorem get_e (j : Nat) : (Tr.e : Tr α).get j = none := rfl
theorem get_ofList : ∀ (l : List α) (k : Nat) (t : Tr α) (j : Nat), (ofList l k t).get j = if k ≤ j then (match l[j - k]? with | some a => some a | none => t.get j) else t.get j
  | [], k, t, j => by simp [ofList]
  | a :: l, k, t, j => by
    simp only [ofList, get_ofList l (k + 1) (t.set k a) j, get_set]
    by_cases h : k ≤ j
    · by_cases h' : k = j
      · subst h'; rw [if_neg (by omega), if_pos (Nat.le_refl _)]; simp
      · rw [if_pos (by omega), if_pos h, if_neg (by omega), show j - k = (j - (k + 1)) + 1 by omega]; simp
    · rw [if_neg (by omega), if_neg h, if_neg (by omega)]
end Tr
structure Loc where
  blk : Nat
  extra : Nat
abbrev Mp := Nat → Option Loc
def Mp.le (m m' : Mp) : Prop := ∀ b L, m b = some L → m' b = some L
theorem Mp.le_refl (m : Mp) : m.le m := fun _ _ h => h
theorem Mp.le_trans {a b c : Mp} (h : a.le b) (k : b.le c) : a.le c := fun x L e => k x L (h x L e)
mutual
inductive VRel (m : Mp) : Value → Value → Prop
  | bool (b : Bool) : VRel m (.bool b) (.bool b)
  | int (k : IntKind) (n : Int) : VRel m (.int k n) (.int k n)
  | float (k : FloatKind) (n : Nat) : VRel m (.float k n) (.float k n)
  | complex (k : FloatKind) (x y : Nat) : VRel m (.complex k x y) (.complex k x y)
  | string (s : ByteArray) : VRel m (.string s) (.string s)
  | nilp : VRel m (.pointer none) (.pointer none)
  | ptr {b o : Nat} {L : Loc} (h : m b = some L) : VRel m (.pointer (some ⟨b, o, none⟩)) (.pointer (some ⟨L.blk, o, none⟩))
  | nils : VRel m (.slice none 0 0) (.slice none 0 0)
  | slc {b o len cap cap' : Nat} {L : Loc} {a : Addr} (h : m b = some L) (hl : len ≤ cap / 2) (hc : cap' = cap / 2 + (cap % 2) * L.extra)
      (ha : a = ⟨L.blk, o, none⟩ ∨ cap' = 0) : VRel m (.slice (some ⟨b, o, none⟩) len cap) (.slice (some a) len cap')
  | nilm : VRel m (.map none) (.map none)
  | mp {b : Nat} {L : Loc} (h : m b = some L) : VRel m (.map (some b)) (.map (some L.blk))
  | nilc : VRel m (.chan none) (.chan none)
  | hole {v : Value} : VRel m (.chan (some 0)) v
  | func {fn : Fn} {f f' c c' : Array Value} (hf : VL m f.toList f'.toList) (hc : VL m c.toList c'.toList) : VRel m (.func fn f c) (.func fn f' c')
  | nilFunc : VRel m .nilFunc .nilFunc
  | nilIface : VRel m .nilIface .nilIface
  | iface {t : TypeId} {v v' : Value} (h : VRel m v v') : VRel m (.iface t v) (.iface t v')
  | agg {cs cs' : Array Value} (h : VL m cs.toList cs'.toList) : VRel m (.agg cs) (.agg cs')
  | tuple {cs cs' : Array Value} (h : VL m cs.toList cs'.toList) : VRel m (.tuple cs) (.tuple cs')
inductive VL (m : Mp) : List Value → List Value → Prop
  | nil : VL m [] []
  | cons {a a' : Value} {l l' : List Value} (h : VRel m a a') (t : VL m l l') : VL m (a :: l) (a' :: l')
end
mutual
theorem VRel.mono {m m' : Mp} (hm : m.le m') {v v' : Value} (h : VRel m v v') : VRel m' v v' := by
  cases h with
  | bool b => exact .bool b
  | int k n => exact .int k n
  | float k n => exact .float k n
  | complex k x y => exact .complex k x y
  | string s => exact .string s
  | nilp => exact .nilp
  | ptr h => exact .ptr (hm _ _ h)
  | nils => exact .nils
  | slc h hl hc ha => exact .slc (hm _ _ h) hl hc ha
  | nilm => exact .nilm
  | mp h => exact .mp (hm _ _ h)
  | nilc => exact .nilc
  | hole => exact .hole
  | func hf hc => exact .func (hf.mono hm) (hc.mono hm)
  | nilFunc => exact .nilFunc
  | nilIface => exact .nilIface
  | iface h => exact .iface (h.mono hm)
  | agg h => exact .agg (h.mono hm)
  | tuple h => exact .tuple (h.mono hm)
theorem VL.mono {m m' : Mp} (hm : m.le m') {l l' : List Value} (h : VL m l l') : VL m' l l' := by
  cases h with
  | nil => exact .nil
  | cons h t => exact .cons (h.mono hm) (t.mono hm)
end
namespace VL
variable {m : Mp}
theorem length {l l' : List Value} (h : VL m l l') : l.length = l'.length := by
  induction l generalizing l' with
  | nil => cases h; rfl
  | cons a l ih => cases h with | cons h t => simp [ih t]
theorem getElem? {l l' : List Value} (h : VL m l l') (i : Nat) : ∀ {a : Value}, l[i]? = some a → ∃ a', l'[i]? = some a' ∧ VRel m a a' := by
  induction l generalizing l' i with
  | nil => intro a h; simp at h
  | cons x l ih =>
    cases h with
    | cons h t =>
      intro a ha
      cases i with
      | zero => simp at ha; subst ha; exact ⟨_, rfl, h⟩
      | succ i => simp at ha; simpa using ih t i ha
theorem append {a a' b b' : List Value} (h : VL m a a') (k : VL m b b') : VL m (a ++ b) (a' ++ b') := by
  induction a generalizing a' with
  | nil => cases h; exact k
  | cons x a ih => cases h with | cons h t => exact .cons h (ih t)
theorem take {l l' : List Value} (h : VL m l l') (n : Nat) : VL m (l.take n) (l'.take n) := by
  induction l generalizing l' n with
  | nil => cases h; simp; exact .nil
  | cons x l ih => cases h with | cons h t => cases n with
    | zero => exact .nil
    | succ n => exact .cons h (ih t n)
theorem drop {l l' : List Value} (h : VL m l l') (n : Nat) : VL m (l.drop n) (l'.drop n) := by
  induction l generalizing l' n with
  | nil => cases h; simp; exact .nil
  | cons x l ih => cases n with
    | zero => exact h
    | succ n => cases h with | cons h t => exact ih t n
theorem splice {a a' b b' : List Value} (h : VL m a a') (k : VL m b b') (o : Nat) : VL m (Ev.splice a o b) (Ev.splice a' o b') := by
  unfold Ev.splice
  rw [k.length]
  exact ((h.take o).append k).append (h.drop _)
end VL
theorem VRel.scal_eq {m : Mp} {v v' : Value} (h : VRel m v v') (hs : scal v = true) : v' = v := by
  cases h <;> simp [scal] at hs <;> first | rfl | skip
theorem VL.scal_eq {m : Mp} {l l' : List Value} (h : VL m l l') (hs : l.all scal = true) : l' = l := by
  induction l generalizing l' with
  | nil => cases h; rfl
  | cons x l ih => cases h with
    | cons h t =>
      simp at hs
      rw [h.scal_eq hs.1, ih t (by simpa using hs.2)]
theorem VRel.flat_eq {m : Mp} {v v' : Value} (h : VRel m v v') (hs : flat v = true) : v' = v := by
  cases h with
  | agg h => rename_i cs cs'; have := h.scal_eq (by simpa [flat] using hs); rw [Array.toList_inj.1 this]
  | tuple h => rename_i cs cs'; have := h.scal_eq (by simpa [flat] using hs); rw [Array.toList_inj.1 this]
  | iface h => rw [h.scal_eq (by simpa [flat] using hs)]
  | func hf hc =>
    rename_i fn f f' c c'
    have h1 : f = #[] ∧ c = #[] := by
      cases fn <;> simp [flat, scal] at hs
      exact hs
    obtain ⟨rfl, rfl⟩ := h1
    have e1 : f' = #[] := by cases f' with | mk l => cases hf; rfl
    have e2 : c' = #[] := by cases c' with | mk l => cases hc; rfl
    rw [e1, e2]
  | slc h => simp [flat, scal] at hs
  | ptr h => simp [flat, scal] at hs
  | mp h => simp [flat, scal] at hs
  | hole => simp [flat, scal] at hs
  | _ => rfl
theorem scal_refl {m : Mp} {v : Value} (hs : scal v = true) : VRel m v v := by
  cases v with
  | bool b => exact .bool b
  | int k n => exact .int k n
  | float k b => exact .float k b
  | complex k a b => exact .complex k a b
  | string s => exact .string s
  | pointer a => cases a with | none => exact .nilp | some a => simp [scal] at hs
  | slice a l c =>
    cases a with
    | none => cases l with
      | zero => cases c with
        | zero => exact .nils
        | succ c => simp [scal] at hs
      | succ l => simp [scal] at hs
    | some a => simp [scal] at hs
  | map r => cases r with | none => exact .nilm | some r => simp [scal] at hs
  | chan r => cases r with | none => exact .nilc | some r => simp [scal] at hs
  | func fn f c => simp [scal] at hs
  | nilFunc => exact .nilFunc
  | iface t v => simp [scal] at hs
  | nilIface => exact .nilIface
  | agg cs => simp [scal] at hs
  | tuple cs => simp [scal] at hs
theorem scals_refl {m : Mp} {l : List Value} (hs : l.all scal = true) : VL m l l := by
  induction l with
  | nil => exact .nil
  | cons x l ih => simp at hs; exact .cons (scal_refl hs.1) (ih (by simpa using hs.2))
theorem flat_refl {m : Mp} {v : Value} (hs : flat v = true) : VRel m v v := by
  cases v with
  | agg cs => exact .agg (scals_refl (by simpa [flat] using hs))
  | tuple cs => exact .tuple (scals_refl (by simpa [flat] using hs))
  | iface t v => exact .iface (scal_refl (by simpa [flat] using hs))
  | func fn f c =>
    have h1 : f = #[] ∧ c = #[] := by
      cases fn <;> simp [flat, scal] at hs
      exact hs
    obtain ⟨rfl, rfl⟩ := h1
    exact .func .nil .nil
  | _ => exact scal_refl (by simpa [flat] using hs)
theorem VRel.cells {m : Mp} {v v' : Value} (h : VRel m v v') (hb : boxable v = true) : VL m v.cells.toList v'.cells.toList := by
  cases h with
  | agg h => exact h
  | hole => simp [boxable] at hb
  | _ => simp only [Value.cells]; exact .cons (by constructor <;> assumption) .nil
theorem VRel.isCell {m : Mp} {v v' : Value} (h : VRel m v v') (hc : isCell v = true) : isCell v' = true := by
  cases h <;> first | rfl | (simp [Ev.isCell] at hc)
theorem boxable_of {v : Value} (h : v.cells.toList.all Ev.isCell = true) : boxable v = true := by
  unfold boxable
  split
  · simp [Value.cells, Ev.isCell] at h
  · rfl
theorem flat_boxable {v : Value} (h : flat v = true) : boxable v = true := by
  unfold boxable
  split
  · simp [flat, scal] at h
  · rfl
theorem prun_sound {α : Type} {P : Program} : ∀ {s : Sem α} {a : α}, prun P s = some a → ∀ w, s.run P w = .ok a w := by
  intro s
  induction s with
  | pure a => intro b h w; simp [prun] at h; subst h; rfl
  | program k ih => intro b h w; exact ih P h w
  | mark mk k ih => intro b h w; exact ih h w
  | _ => intro b h; simp [prun] at h
structure FrRel (m : Mp) (nt : Nat) (fr : Fr) (tmps : Array Value) : Prop where
  size : tmps.size = nt
  get : ∀ t v, fr.get t = some v → ∃ v', tmps[t]? = some v' ∧ VRel m v v'
theorem FrRel.mono {m m' : Mp} {nt : Nat} {fr : Fr} {tmps : Array Value} (hm : m.le m') (h : FrRel m nt fr tmps) : FrRel m' nt fr tmps :=
  ⟨h.size, fun t v e => let ⟨v', e', r⟩ := h.get t v e; ⟨v', e', r.mono hm⟩⟩
theorem FrRel.set {m : Mp} {nt : Nat} {fr : Fr} {tmps : Array Value} (h : FrRel m nt fr tmps) {d : Nat} (hd : d < nt) {v v' : Value} (hv : VRel m v v') :
    FrRel m nt (fr.set d v) (tmps.setIfInBounds d v') := by
  refine ⟨by simp [h.size], fun t u e => ?_⟩
  rw [Tr.get_set] at e
  by_cases hh : t = d
  · subst hh
    simp at e; subst e
    exact ⟨v', by simp [h.size, hd], hv⟩
  · rw [if_neg hh] at e
    obtain ⟨u', e', r⟩ := h.get t u e
    exact ⟨u', by rw [Array.getElem?_setIfInBounds_ne (by omega)]; exact e', r⟩
theorem FrRel.put {m : Mp} {nt : Nat} {fr : Fr} {a : Act} (h : FrRel m nt fr a.tmps) {dst : Option Tmp} (hd : ∀ d, dst = some d → d < nt) {v v' : Value} (hv : VRel m v v') :
    FrRel m nt (Ev.put fr dst v) (a.put dst v').tmps := by
  cases dst with
  | none => exact h
  | some d => exact h.set (hd d rfl) hv
theorem ev1_sound {m : Mp} {nt : Nat} {fr : Fr} {a : Act} (h : FrRel m nt fr a.tmps) {x : Operand} {v : Value} (e : ev1 fr x = some v) : VRel m v (a.eval x) := by
  cases x with
  | tmp t =>
    obtain ⟨v', e', r⟩ := h.get t v e
    simp only [Act.eval, Array.getD_eq_getD_getElem?, e', Option.getD_some]
    exact r
  | const c =>
    simp only [ev1] at e
    cases hf : flat c with
    | true => rw [hf] at e; simp at e; subst e; exact flat_refl hf
    | false => rw [hf] at e; simp at e
  | func f => simp [ev1] at e; subst e; exact .func .nil .nil
  | global g => simp [ev1] at e
theorem evs_sound {m : Mp} {nt : Nat} {fr : Fr} {a : Act} (h : FrRel m nt fr a.tmps) : ∀ {xs : List Operand} {vs : List Value}, evs fr xs = some vs → VL m vs (xs.map a.eval)
  | [], vs, e => by simp [evs] at e; subst e; exact .nil
  | x :: xs, vs, e => by
    simp only [evs, Option.bind_eq_some_iff] at e
    obtain ⟨v, e1, us, e2, e3⟩ := e
    simp at e3; subst e3
    exact .cons (ev1_sound h e1) (evs_sound h e2)
end Go.Ev
namespace Go.Ev
open Go
set_option linter.unusedSimpArgs false
set_option linter.unusedVariables false
theorem prunS_sound {P : Program} {m : Mp} {s : Sem Value} {v : Value} (h : prunS P s = some v) : (∀ w, s.run P w = .ok v w) ∧ VRel m v v := by
  unfold prunS at h
  rw [Option.bind_eq_some_iff] at h
  obtain ⟨u, h1, h2⟩ := h
  cases hf : flat u with
  | false => rw [hf] at h2; simp at h2
  | true => rw [hf] at h2; simp at h2; subst h2; exact ⟨prun_sound h1, flat_refl hf⟩
theorem run_underlying {P : Program} {t : TypeId} {d : TypeDesc} (h : P.underlying t = some d) (w : World) : (underlying t).run P w = .ok d w := by
  simp [underlying, h]
theorem run_typeInfo {P : Program} {t : TypeId} {i : TypeInfo} (h : P.info? t = some i) (w : World) : (typeInfo t).run P w = .ok i w := by
  simp [typeInfo, h]
theorem run_sizeOf {P : Program} {t : TypeId} {n : Nat} (h : tSize P t = some n) (w : World) : (sizeOf t).run P w = .ok n w := by
  unfold tSize at h
  rw [Option.map_eq_some_iff] at h
  obtain ⟨i, hi, rfl⟩ := h
  simp [sizeOf, run_typeInfo hi]
theorem run_zeroValue {P : Program} {t : TypeId} {z : Value} (h : tZero P t = some z) (w : World) : (zeroValue t).run P w = .ok z w := by
  unfold tZero at h
  rw [Option.bind_eq_some_iff] at h
  obtain ⟨i, hi, hz⟩ := h
  simp [zeroValue, run_typeInfo hi, hz]
theorem tAgg_spec {P : Program} {t : TypeId} {b : Bool} (h : tAgg P t = some b) : ∃ d, P.underlying t = some d ∧ (match d with | .struct _ => true | .array _ _ => true | _ => false) = b := by
  unfold tAgg at h
  rw [Option.map_eq_some_iff] at h
  exact h
theorem run_isAgg {P : Program} {t : TypeId} {b : Bool} (h : tAgg P t = some b) (w : World) : (isAgg t).run P w = .ok b w := by
  obtain ⟨d, hd, hb⟩ := tAgg_spec h
  simp only [isAgg, Sem.run_bind, run_underlying hd, Result.andThen_ok]
  cases d <;> simp at hb <;> subst hb <;> rfl
theorem tField_spec {P : Program} {t : TypeId} {i off : Nat} {ft : TypeId} (h : tField P t i = some (off, ft)) :
    ∃ fs f, P.underlying t = some (.struct fs) ∧ fs[i]? = some f ∧ f.offset = off ∧ f.type = ft := by
  unfold tField at h
  split at h
  · rename_i fs hu
    split at h
    · rename_i f hf
      simp at h
      exact ⟨fs, f, hu, hf, h.1, h.2⟩
    · cases h
  · cases h
theorem tSliceElem_spec {P : Program} {t e : TypeId} (h : tSliceElem P t = some e) : P.underlying t = some (.slice e) := by
  unfold tSliceElem at h
  split at h
  · rename_i e' hu; simp at h; rw [hu, h]
  · cases h
theorem tArray_spec {P : Program} {t e : TypeId} {n : Nat} (h : tArray P t = some (n, e)) : P.underlying t = some (.array n e) := by
  unfold tArray at h
  split at h
  · rename_i n' e' hu; simp at h; rw [hu, h.1, h.2]
  · cases h
theorem tMap_spec {P : Program} {t k e : TypeId} (h : tMap P t = some (k, e)) : P.underlying t = some (.map k e) := by
  unfold tMap at h
  split at h
  · rename_i n' e' hu; simp at h; rw [hu, h.1, h.2]
  · cases h
theorem tString_spec {P : Program} {t : TypeId} (h : tString P t = some true) : P.underlying t = some .string := by
  unfold tString at h
  rw [Option.map_eq_some_iff] at h
  obtain ⟨d, hd, hb⟩ := h
  cases d <;> simp at hb
  exact hd
theorem tPtr_spec {P : Program} {t : TypeId} (h : evBin.tPtr P t = true) : ∃ e, P.underlying t = some (.pointer e) := by
  unfold evBin.tPtr at h
  split at h
  · rename_i e hu; exact ⟨e, hu⟩
  · cases h
theorem evPart_sound {P : Program} {m : Mp} {t : TypeId} {cs cs' : List Value} {off : Nat} {v : Value} (h : evPart P t cs off = some v) (hr : VL m cs cs') :
    ∃ v', (∀ w, (part t cs'.toArray off).run P w = .ok v' w) ∧ VRel m v v' := by
  unfold evPart at h
  split at h
  · rename_i ha
    rw [Option.bind_eq_some_iff] at h
    obtain ⟨n, hn, h⟩ := h
    cases hd : decide (off + n ≤ cs.length) with
    | false => rw [hd] at h; simp at h
    | true =>
      rw [hd] at h; simp at h; subst h
      refine ⟨.agg ((cs'.drop off).take n).toArray, fun w => ?_, .agg ?_⟩
      · simp only [part, Sem.run_bind, run_isAgg ha, Result.andThen_ok, if_true, run_sizeOf hn, Sem.run_pure]
        congr 2
        apply Array.toList_inj.1
        simp
      · simpa using (hr.drop off).take n
  · rename_i ha
    obtain ⟨v', e', r⟩ := hr.getElem? off h
    refine ⟨v', fun w => ?_, r⟩
    simp only [part, Sem.run_bind, run_isAgg ha, Result.andThen_ok]
    simp [e']
  · cases h
theorem evField_sound {P : Program} {m : Mp} {t : TypeId} {x x' v : Value} {i : Nat} (h : evField P t x i = some v) (hr : VRel m x x') :
    ∃ v', (∀ w, (Instr.field t x' i).run P w = .ok v' w) ∧ VRel m v v' := by
  unfold evField at h
  split at h
  · rename_i cs off ft hf
    cases hr with
    | agg hr =>
      rename_i cs'
      obtain ⟨v', h1, h2⟩ := evPart_sound h hr
      obtain ⟨fs, f, hu, hf2, rfl, rfl⟩ := tField_spec hf
      exact ⟨v', fun w => by simp [Instr.field, run_underlying hu, hf2, asAgg]; simpa using h1 w, h2⟩
  · cases h
theorem Addr_add0 (a : Addr) (h : a.spot = none) (n : Nat) : a.add n = ⟨a.block, a.off + n, none⟩ := by
  unfold Addr.add
  split
  · rename_i h0; subst h0; cases a; simp_all
  · rfl
theorem evFieldAddr_sound {P : Program} {m : Mp} {t : TypeId} {x x' v : Value} {i : Nat} (h : evFieldAddr P t x i = some v) (hr : VRel m x x') :
    ∃ v', (∀ w, (Instr.fieldAt t x' i).run P w = .ok v' w) ∧ VRel m v v' := by
  unfold evFieldAddr at h
  split at h
  · rename_i b o off ft hf
    split at h
    · rename_i n hn
      simp at h; subst h
      cases hr with
      | ptr hL =>
        obtain ⟨fs, f, hu, hf2, rfl, rfl⟩ := tField_spec hf
        refine ⟨_, fun w => ?_, .ptr hL⟩
        simp [Instr.fieldAt, run_underlying hu, hf2, Instr.sureAddr, fieldPlace, run_sizeOf hn, Addr_add0]
    · cases h
  · cases h
theorem evIndexAddr_sound {P : Program} {m : Mp} {t : TypeId} {x x' ix ix' v : Value} (h : evIndexAddr P t x ix = some v) (hr : VRel m x x') (hi : VRel m ix ix') :
    ∃ v', (∀ w, (Instr.indexAt t x' ix').run P w = .ok v' w) ∧ VRel m v v' := by
  unfold evIndexAddr at h
  split at h
  · rename_i b o len cap k i
    cases hi
    simp only [Option.bind_eq_some_iff] at h
    obtain ⟨e, he, n, hn, h⟩ := h
    cases hd : (decide (0 ≤ i) && decide (i < len)) with
    | false => rw [hd] at h; simp at h
    | true =>
      rw [hd] at h; simp at h hd; subst h
      cases hr with
      | slc hL hl hc ha =>
        rename_i cap' L a
        have hne : cap' ≠ 0 := by
          have : 0 < cap / 2 := by omega
          omega
        have ha := ha.resolve_right hne
        subst ha
        refine ⟨_, fun w => ?_, .ptr hL⟩
        simp [Instr.indexAt, asIntOf, run_underlying (tSliceElem_spec he), hd, run_sizeOf hn, Addr_add0]
  · rename_i b o k i
    cases hi
    simp only [Option.bind_eq_some_iff] at h
    obtain ⟨⟨len, e⟩, he, n, hn, h⟩ := h
    cases hd : (decide (0 ≤ i) && decide (i < len)) with
    | false => rw [hd] at h; simp at h
    | true =>
      rw [hd] at h; simp at h hd; subst h
      cases hr with
      | ptr hL =>
        refine ⟨_, fun w => ?_, .ptr hL⟩
        simp [Instr.indexAt, asIntOf, run_underlying (tArray_spec he), Instr.sureAddr, hd, run_sizeOf hn, Addr_add0]
  · cases h
theorem evIndex_sound {P : Program} {m : Mp} {t : TypeId} {x x' ix ix' v : Value} (h : evIndex P t x ix = some v) (hr : VRel m x x') (hi : VRel m ix ix') :
    ∃ v', (∀ w, (Instr.index t x' ix').run P w = .ok v' w) ∧ VRel m v v' := by
  unfold evIndex at h
  split at h
  · rename_i s k i
    cases hi; cases hr
    cases hd : ((tString P t == some true) && decide (0 ≤ i)) with
    | false => rw [hd] at h; simp at h
    | true =>
      rw [hd] at h; simp at h hd
      obtain ⟨b, hb, rfl⟩ := h
      refine ⟨_, fun w => ?_, .int _ _⟩
      simp [Instr.index, asIntOf, run_underlying (tString_spec hd.1), hd.2, hb]
  · rename_i cs k i
    cases hi
    simp only [Option.bind_eq_some_iff] at h
    obtain ⟨⟨len, e⟩, he, n, hn, h⟩ := h
    cases hd : (decide (0 ≤ i) && decide (i < len)) with
    | false => rw [hd] at h; simp at h
    | true =>
      rw [hd] at h; simp at h hd
      cases hr with
      | agg hr =>
        obtain ⟨v', h1, h2⟩ := evPart_sound h hr
        refine ⟨v', fun w => ?_, h2⟩
        simp [Instr.index, asIntOf, run_underlying (tArray_spec he), hd, run_sizeOf hn]
        simpa using h1 w
  · cases h
inductive VO (m : Mp) : Option Value → Option Value → Prop
  | none : VO m none none
  | some {a b : Value} (h : VRel m a b) : VO m (some a) (some b)
theorem bound_some {m : Mp} {v v' : Value} {d lim n : Nat} (h : bound (some v) d lim = some n) (hx : VRel m v v') :
    n ≤ lim ∧ ∀ P lim' code, lim ≤ lim' → ∀ w, (Instr.sliceBound v' lim' code).run P w = .ok n w := by
  cases v <;> simp [bound] at h
  rename_i k i
  cases hx
  cases hd : (decide (0 ≤ i) && decide (i ≤ (lim : Int))) with
  | false => rw [hd] at h; simp at h
  | true =>
    rw [hd] at h; simp at h hd; subst h
    refine ⟨by omega, fun P lim' code hl w => ?_⟩
    simp [Instr.sliceBound, asIntOf, hd.1, show i ≤ (lim' : Int) by omega]
theorem bound_none {d lim n : Nat} (h : bound none d lim = some n) : n = d := by simp [bound] at h; exact h.symm
theorem evSlice_sound {P : Program} {m : Mp} {t : TypeId} {x x' v : Value} {lo hi mx lo' hi' mx' : Option Value} (h : evSlice P t x lo hi mx = some v)
    (hr : VRel m x x') (hlo : VO m lo lo') (hhi : VO m hi hi') (hmx : VO m mx mx') :
    ∃ v', (∀ w, (Instr.sliceAt t x' lo' hi' mx').run P w = .ok v' w) ∧ VRel m v v' := by
  unfold evSlice at h
  split at h
  · rename_i s
    cases hr
    cases hd : ((tString P t == some true) && mx.isNone) with
    | false => rw [hd] at h; simp at h
    | true =>
      rw [hd] at h; simp only [cond_true, Bool.and_eq_true, beq_iff_eq, Option.isNone_iff_eq_none, Option.bind_eq_some_iff, Option.some.injEq] at h hd
      obtain ⟨ht, rfl⟩ := hd
      cases hmx
      obtain ⟨b, hb, a, ha, rfl⟩ := h
      refine ⟨_, fun w => ?_, .string _⟩
      have hu := tString_spec ht
      simp only [Instr.sliceAt, Sem.run_bind, run_underlying hu, Result.andThen_ok, Instr.slice, Instr.sliceBounds]
      cases hhi with
      | none =>
        have := bound_none hb; subst this
        cases hlo with
        | none => have := bound_none ha; subst this; simp
        | some h2 => obtain ⟨h3, h4⟩ := bound_some ha h2; simp [h4 P s.size _ (Nat.le_refl _)]
      | some h1 =>
        obtain ⟨h5, h6⟩ := bound_some hb h1
        cases hlo with
        | none => have := bound_none ha; subst this; simp [h6 P s.size _ (Nat.le_refl _)]
        | some h2 => obtain ⟨h3, h4⟩ := bound_some ha h2; simp [h6 P s.size _ (Nat.le_refl _), h4 P b _ (Nat.le_refl _)]
  · rename_i a len cap
    simp only [Option.bind_eq_some_iff] at h
    obtain ⟨e, he, n, hn, h⟩ := h
    have hu := tSliceElem_spec he
    -- what the true slice is
    obtain ⟨a', cap', rfl, hcap, hlen, hkind⟩ : ∃ a' cap', x' = .slice a' len cap' ∧ cap / 2 ≤ cap' ∧ len ≤ cap / 2 ∧
        ((a = none ∧ a' = none ∧ len = 0 ∧ cap = 0 ∧ cap' = 0) ∨
          ∃ b o L c', a = some ⟨b, o, none⟩ ∧ a' = some c' ∧ m b = some L ∧ cap' = cap / 2 + (cap % 2) * L.extra ∧ (c' = ⟨L.blk, o, none⟩ ∨ cap' = 0)) := by
      cases hr with
      | nils => exact ⟨none, 0, rfl, by omega, by omega, .inl ⟨rfl, rfl, rfl, rfl, rfl⟩⟩
      | slc hL hl hc ha => exact ⟨_, _, rfl, by omega, hl, .inr ⟨_, _, _, _, rfl, rfl, hL, hc, ha⟩⟩
    cases hmx with
    | none =>
      simp only [Option.bind_eq_some_iff, Option.some.injEq] at h
      obtain ⟨b, hb, l, hl, rfl⟩ := h
      have hbl : b ≤ cap / 2 ∧ l ≤ b := by
        refine ⟨?_, ?_⟩
        · cases hhi with
          | none => have := bound_none hb; omega
          | some h1 => exact (bound_some hb h1).1
        · cases hlo with
          | none => have := bound_none hl; omega
          | some h1 => exact (bound_some hl h1).1
      have hrun : ∀ w, (Instr.sliceAt t (.slice a' len cap') lo' hi' none).run P w = .ok (.slice (if cap' = l then a' else a'.map (·.add (l * n))) (b - l) (cap' - l)) w := by
        intro w
        simp only [Instr.sliceAt, Sem.run_bind, run_underlying hu, Result.andThen_ok, Instr.slice, Instr.sliceBounds]
        cases hhi with
        | none =>
          have := bound_none hb; subst this
          cases hlo with
          | none => have := bound_none hl; subst this; simp [run_sizeOf hn]
          | some h2 => obtain ⟨h3, h4⟩ := bound_some hl h2; simp [h4 P b _ (Nat.le_refl _), run_sizeOf hn]
        | some h1 =>
          obtain ⟨h5, h6⟩ := bound_some hb h1
          cases hlo with
          | none => have := bound_none hl; subst this; simp [h6 P cap' _ hcap, run_sizeOf hn]
          | some h2 => obtain ⟨h3, h4⟩ := bound_some hl h2; simp [h6 P cap' _ hcap, h4 P b _ (Nat.le_refl _), run_sizeOf hn]
      refine ⟨_, hrun, ?_⟩
      rcases hkind with ⟨rfl, rfl, rfl, rfl, rfl⟩ | ⟨b0, o, L, c', rfl, rfl, hL, hc, hor⟩
      · have e1 : b = 0 := by omega
        have e2 : l = 0 := by omega
        subst e1; subst e2
        simp
        exact .nils
      · simp only [Option.map_some]
        have hx : ∀ c'' : Addr, (c'' = ⟨L.blk, o + l * n, none⟩ ∨ cap' - l = 0) → VRel m (.slice (some ⟨b0, o + l * n, none⟩) (b - l) (2 * (cap / 2 - l) + cap % 2)) (.slice (some c'') (b - l) (cap' - l)) := by
          intro c'' hc''
          refine .slc hL (by omega) ?_ hc''
          rw [show (2 * (cap / 2 - l) + cap % 2) / 2 = cap / 2 - l by omega, show (2 * (cap / 2 - l) + cap % 2) % 2 = cap % 2 by omega]
          omega
        by_cases hcl : cap' = l
        · rw [if_pos hcl]
          exact hx c' (.inr (by omega))
        · rw [if_neg hcl]
          refine hx _ (.inl ?_)
          have := hor.resolve_right (by omega)
          subst this
          rw [Addr_add0 _ rfl]
    | some hm =>
      rename_i mv mv'
      cases mv <;> simp only at h <;> try (exact absurd h (by simp))
      rename_i mk mi
      simp only [Option.bind_eq_some_iff] at h
      obtain ⟨mm, hmm, b, hb, l, hl, h⟩ := h
      obtain ⟨hm1, hm2⟩ := bound_some hmm hm
      cases hhi with
      | none => simp at h
      | some h1 =>
        rename_i hiv hiv'
        simp at h; subst h
        obtain ⟨h5, h6⟩ := bound_some hb h1
        have hbl : l ≤ b := by
          cases hlo with
          | none => have := bound_none hl; omega
          | some h1 => exact (bound_some hl h1).1
        have hrun : ∀ w, (Instr.sliceAt t (.slice a' len cap') lo' (some hiv') (some mv')).run P w = .ok (.slice (if mm = l then a' else a'.map (·.add (l * n))) (b - l) (mm - l)) w := by
          intro w
          simp only [Instr.sliceAt, Sem.run_bind, run_underlying hu, Result.andThen_ok, Instr.slice, Instr.sliceBounds]
          cases hlo with
          | none => have := bound_none hl; subst this; simp [hm2 P cap' _ hcap, h6 P mm _ (Nat.le_refl _), run_sizeOf hn]
          | some h2 => obtain ⟨h3, h4⟩ := bound_some hl h2; simp [hm2 P cap' _ hcap, h6 P mm _ (Nat.le_refl _), h4 P b _ (Nat.le_refl _), run_sizeOf hn]
        refine ⟨_, hrun, ?_⟩
        rcases hkind with ⟨rfl, rfl, rfl, rfl, rfl⟩ | ⟨b0, o, L, c', rfl, rfl, hL, hc, hor⟩
        · have e1 : b = 0 := by omega
          have e2 : l = 0 := by omega
          have e3 : mm = 0 := by omega
          subst e1; subst e2; subst e3
          simp
          exact .nils
        · simp only [Option.map_some]
          by_cases hcl : mm = l
          · rw [if_pos hcl, if_pos hcl]
            refine .slc hL (by omega) (by rw [show 2 * (mm - l) / 2 = mm - l by omega, show 2 * (mm - l) % 2 = 0 by omega]; simp) (.inr (by omega))
          · rw [if_neg hcl, if_neg hcl]
            have := hor.resolve_right (by omega)
            subst this
            rw [Addr_add0 _ rfl]
            exact .slc hL (by omega) (by rw [show 2 * (mm - l) / 2 = mm - l by omega, show 2 * (mm - l) % 2 = 0 by omega]; simp) (.inl rfl)
  · cases h
end Go.Ev
namespace Go.Ev
open Go
set_option linter.unusedSimpArgs false
set_option linter.unusedVariables false
theorem foldl_splice (vs : List Value) : ∀ (cs : Array Value) (off k : Nat), off + k + vs.length ≤ cs.size →
    ((vs.zipIdx k).foldl (fun cs (c, j) => cs.setIfInBounds (off + j) c) cs).toList = splice cs.toList (off + k) vs := by
  induction vs with
  | nil => intro cs off k h; simp [splice]
  | cons v vs ih =>
    intro cs off k h
    simp only [List.length_cons] at h
    simp only [List.zipIdx_cons, List.foldl_cons]
    rw [ih _ off (k + 1) (by simp; omega)]
    simp only [splice, Array.toList_setIfInBounds, List.length_cons]
    apply List.ext_getElem?
    intro i
    simp only [List.getElem?_append, List.getElem?_take, List.getElem?_drop, List.length_take, List.length_set, List.length_append, List.length_cons, List.getElem?_set, Array.length_toList]
    rw [Nat.min_eq_left (by omega), Nat.min_eq_left (by omega)]
    by_cases h1 : i < off + k
    · simp [h1, show i < off + (k + 1) by omega, show ¬ off + k = i by omega, show i < off + k + (vs.length + 1) by omega, show i < off + (k + 1) + vs.length by omega]
    · by_cases h2 : i = off + k
      · subst h2
        simp [show off + k < off + (k + 1) by omega, show off + k < cs.size by omega, show off + k < off + (k + 1) + vs.length by omega]
      · obtain ⟨j, rfl⟩ : ∃ j, i = off + (k + 1) + j := ⟨i - (off + (k + 1)), by omega⟩
        by_cases h3 : j < vs.length
        · simp [h3, show ¬ off + (k + 1) + j < off + k by omega, show off + (k + 1) + j < off + k + (vs.length + 1) by omega, show off + (k + 1) + j - (off + k) = j + 1 by omega]
          intro hh; omega
        · simp [h3, show ¬ off + (k + 1) + j < off + k + (vs.length + 1) by omega, show ¬ off + k = off + (k + 1) + vs.length + (off + (k + 1) + j - (off + (k + 1) + vs.length)) by omega]
          congr 1
          omega
inductive PL (m : Mp) : List (Nat × Value) → List (Nat × Value) → Prop
  | nil : PL m [] []
  | cons {i : Nat} {v v' : Value} {l l' : List (Nat × Value)} (h : VRel m v v') (t : PL m l l') : PL m ((i, v) :: l) ((i, v') :: l')
theorem VRel.cells_size {m : Mp} {v v' : Value} (h : VRel m v v') (hb : boxable v = true) : v'.cells.size = v.cells.size := by
  have := (h.cells hb).length; simpa using this.symm
theorem fill_sound {m : Mp} {place : Nat → Option (Nat × Nat)} : ∀ {parts parts' : List (Nat × Value)}, PL m parts parts' → ∀ {cs r : List Value} {cs' : Array Value}, VL m cs cs'.toList →
    fillV place cs parts = some r → ∃ r', Instr.fill place cs' parts' = some r' ∧ VL m r r'.toList := by
  intro parts parts' h
  induction h with
  | nil => intro cs r cs' hc e; simp [fillV] at e; subst e; exact ⟨cs', rfl, hc⟩
  | cons hv ht ih =>
    rename_i i v v' l l'
    intro cs r cs' hc e
    simp only [fillV] at e
    simp only [Instr.fill]
    cases hp : place i with
    | none => simp [hp] at e
    | some os =>
      obtain ⟨off, size⟩ := os
      simp only [hp] at e ⊢
      cases hd : (v.cells.size == size) && decide (off + v.cells.size ≤ cs.length) && boxable v with
      | false => rw [hd] at e; simp at e
      | true =>
        rw [hd] at e
        simp only [cond_true, Bool.and_eq_true, beq_iff_eq, decide_eq_true_eq] at e hd
        have hl : cs.length = cs'.size := by simpa using hc.length
        have hs := hv.cells_size hd.2
        rw [if_neg (by simp [hs, hd.1.1]; omega)]
        refine ih ?_ e
        rw [show v'.cells.zipIdx.foldl (fun cs (x : Value × Nat) => cs.setIfInBounds (off + x.2) x.1) cs' = (v'.cells.toList.zipIdx 0).foldl (fun cs (c, j) => cs.setIfInBounds (off + j) c) cs' by
          rw [← Array.foldl_toList]; simp]
        rw [foldl_splice _ _ _ _ (by simp [hs]; omega)]
        simp only [Nat.add_zero]
        exact hc.splice (hv.cells hd.2) off
theorem evParts_sound {m : Mp} {nt : Nat} {fr : Fr} {a : Act} (h : FrRel m nt fr a.tmps) : ∀ {xs : List (Nat × Operand)} {vs : List (Nat × Value)}, evParts fr xs = some vs →
    PL m vs (xs.map fun (i, x) => (i, a.eval x))
  | [], vs, e => by simp [evParts] at e; subst e; exact .nil
  | (i, x) :: xs, vs, e => by
    simp only [evParts, Option.bind_eq_some_iff] at e
    obtain ⟨v, e1, us, e2, e3⟩ := e
    simp at e3; subst e3
    exact .cons (ev1_sound h e1) (evParts_sound h e2)
theorem tPlaces_spec {P : Program} {t : TypeId} {ps : List (Nat × Nat)} (h : tPlaces P t = some ps) : ∃ fs, P.underlying t = some (.struct fs) ∧
    fs.toList.mapM (fun f => (P.info? f.type).map fun i => (f.offset, i.size)) = some ps := by
  unfold tPlaces at h
  split at h
  · rename_i fs hu; exact ⟨fs, hu, h⟩
  · cases h
theorem evBuild_sound {P : Program} {m : Mp} {t : TypeId} {parts parts' : List (Nat × Value)} {v : Value} (h : evBuild P t parts = some v) (hp : PL m parts parts') :
    ∃ v', (∀ w, (Instr.build t parts'.toArray).run P w = .ok v' w) ∧ VRel m v v' := by
  simp only [evBuild, Option.bind_eq_some_iff] at h
  obtain ⟨z, hz, h⟩ := h
  cases hf : flat z with
  | false => rw [hf] at h; simp at h
  | true =>
    rw [hf] at h
    simp only [Bool.not_true, cond_false] at h
    have hzr : VL m z.cells.toList z.cells.toList := (flat_refl (m := m) hf).cells (flat_boxable hf)
    split at h
    · rename_i ps hps
      obtain ⟨fs, hu, hm⟩ := tPlaces_spec hps
      rw [Option.map_eq_some_iff] at h
      obtain ⟨cs, hcs, rfl⟩ := h
      obtain ⟨r', hr1, hr2⟩ := fill_sound hp hzr hcs
      refine ⟨.agg r', fun w => ?_, .agg (by simpa using hr2)⟩
      have hr1' : Instr.fill (fun x => ps[x]?) z.cells parts' = some r' := hr1
      simp [Instr.build, run_underlying hu, run_zeroValue hz, Array.mapM_eq_mapM_toList, run_places w _ _ hm, hr1']
    · rename_i n e hps hte
      simp only [Option.bind_eq_some_iff, Option.map_eq_some_iff] at h
      obtain ⟨sz, hsz, cs, hcs, rfl⟩ := h
      obtain ⟨r', hr1, hr2⟩ := fill_sound hp hzr hcs
      refine ⟨.agg r', fun w => ?_, .agg (by simpa using hr2)⟩
      simp [Instr.build, run_underlying (tArray_spec hte), run_zeroValue hz, run_sizeOf hsz, hr1]
    · cases h
theorem run_eqIn_ptr {P : Program} {t : TypeId} {e : TypeId} (hu : P.underlying t = some (.pointer e)) (a : Option Addr) (w : World) (d : Nat) :
    (Op.equalIn (d + 1) t (.pointer none) (.pointer a)).run P w = .ok a.isNone w ∧ (Op.equalIn (d + 1) t (.pointer a) (.pointer none)).run P w = .ok a.isNone w := by
  constructor
  · simp [Op.equalIn, run_underlying hu]
  · cases a <;> simp [Op.equalIn, run_underlying hu]
theorem run_eqPtr {P : Program} {t : TypeId} {e : TypeId} (hu : P.underlying t = some (.pointer e)) (a : Option Addr) (w : World) :
    (Op.equal t (.pointer none) (.pointer a)).run P w = .ok a.isNone w ∧ (Op.equal t (.pointer a) (.pointer none)).run P w = .ok a.isNone w :=
  run_eqIn_ptr hu a w 9999
theorem run_eqIn_slice {P : Program} {t : TypeId} {e : TypeId} (hu : P.underlying t = some (.slice e)) (a : Addr) (l c : Nat) (w : World) (d : Nat) :
    (Op.equalIn (d + 1) t (.slice (some a) l c) (.slice none 0 0)).run P w = .ok false w := by
  simp [Op.equalIn, run_underlying hu]
theorem run_eqSlice {P : Program} {t : TypeId} {e : TypeId} (hu : P.underlying t = some (.slice e)) (a : Addr) (l c : Nat) (w : World) :
    (Op.equal t (.slice (some a) l c) (.slice none 0 0)).run P w = .ok false w := run_eqIn_slice hu a l c w 9999
theorem run_eqIn_map {P : Program} {t : TypeId} {k e : TypeId} (hu : P.underlying t = some (.map k e)) (a : Nat) (w : World) (d : Nat) :
    (Op.equalIn (d + 1) t (.map (some a)) (.map none)).run P w = .ok false w := by
  simp [Op.equalIn, run_underlying hu]
theorem run_eqMap {P : Program} {t : TypeId} {k e : TypeId} (hu : P.underlying t = some (.map k e)) (a : Nat) (w : World) :
    (Op.equal t (.map (some a)) (.map none)).run P w = .ok false w := run_eqIn_map hu a w 9999
theorem evBin_sound {P : Program} {m : Mp} {op : BinOp} {t : TypeId} {xo yo : Operand} {x y x' y' v : Value} (h : evBin P op t xo yo x y = some v) (hx : VRel m x x') (hy : VRel m y y') :
    ∃ v', (∀ w, (do eqGuard op t xo yo x' y'; binOp op t x' y' : Sem Value).run P w = .ok v' w) ∧ VRel m v v' := by
  unfold evBin at h
  split at h
  · rename_i hf
    simp only [Bool.and_eq_true] at hf
    rw [hx.flat_eq hf.1, hy.flat_eq hf.2]
    exact ⟨v, prunS_sound h⟩
  all_goals first
    | (cases hx; cases hy
       cases hp : evBin.tPtr P t with
       | false => rw [hp] at h; simp at h
       | true =>
         rw [hp] at h; simp at h; subst h
         obtain ⟨e, hu⟩ := tPtr_spec hp
         refine ⟨_, fun w => ?_, .bool _⟩
         simp [eqGuard, binOp, (run_eqPtr hu _ w).1, (run_eqPtr hu _ w).2]
         done)
    | (cases hx; cases hy
       cases hp : (tSliceElem P t).isSome with
       | false => rw [hp] at h; simp at h
       | true =>
         rw [hp] at h; simp at h; subst h
         obtain ⟨e, he⟩ := Option.isSome_iff_exists.1 hp
         have hu := tSliceElem_spec he
         refine ⟨_, fun w => ?_, .bool _⟩
         simp [eqGuard, binOp, run_eqSlice hu]
         done)
    | (cases hx; cases hy
       cases hp : (tMap P t).isSome with
       | false => rw [hp] at h; simp at h
       | true =>
         rw [hp] at h; simp at h; subst h
         obtain ⟨⟨k, e⟩, he⟩ := Option.isSome_iff_exists.1 hp
         have hu := tMap_spec he
         refine ⟨_, fun w => ?_, .bool _⟩
         simp [eqGuard, binOp, run_eqMap hu]
         done)
    | (cases h; done)
theorem execOp_builtin (ρ : Operand → Value) (b : Builtin) (c : Call) (o : Oper) (ho : o.op = .call c) (hc : c.callee = .builtin b) :
    execOp ρ o = builtin b c.argTypes o.type (c.args.map fun | .const _ => true | _ => false) (c.args.map ρ) := by
  unfold execOp
  simp only [ho, resolve, hc]
  rfl
theorem toArray_map {c : Array Operand} {ρ : Operand → Value} {l : List Value} (h : l = c.toList.map ρ) : c.map ρ = l.toArray := by
  apply Array.toList_inj.1; simp [h]
theorem evPureCall_sound {P : Program} {m : Mp} {nt : Nat} {fr : Fr} {a : Act} (hf : FrRel m nt fr a.tmps) {o : Oper} {c : Call} {v : Value} (h : evPureCall P fr c o.type = some v) (ho : o.op = .call c) :
    ∃ v', (∀ w, (execOp a.eval o).run P w = .ok (.value v') w) ∧ VRel m v v' := by
  unfold evPureCall at h
  split at h
  · rename_i hc
    split at h
    · rename_i x t ts hargs htys
      simp only [Option.bind_eq_some_iff] at h
      obtain ⟨x1, hx, h⟩ := h
      have hr := ev1_sound hf hx
      have e1 : c.args.map a.eval = #[a.eval x] := toArray_map (l := [a.eval x]) (by simp [hargs])
      have e2 : c.argTypes[0]? = some t := by rw [← Array.getElem?_toList, htys]; rfl
      split at h
      · generalize he : a.eval x = x' at hr e1
        cases hr
        rename_i s
        cases hs : (tString P t == some true) with
        | false => rw [hs] at h; simp at h
        | true =>
          rw [hs] at h; simp at h hs; subst h
          refine ⟨_, fun w => ?_, .int _ _⟩
          rw [execOp_builtin _ _ _ _ ho hc, e1]
          simp [builtin, Builtin.len_, e2, run_underlying (tString_spec hs)]
          rfl
      · rename_i sl n cap
        generalize he : a.eval x = x' at hr e1
        obtain ⟨a2, c2, rfl⟩ : ∃ a2 c2, x' = .slice a2 n c2 := by cases hr <;> exact ⟨_, _, rfl⟩
        cases hs : (tSliceElem P t) with
        | none => rw [hs] at h; simp at h
        | some e =>
          rw [hs] at h; simp at h; subst h
          refine ⟨_, fun w => ?_, .int _ _⟩
          rw [execOp_builtin _ _ _ _ ho hc, e1]
          simp [builtin, Builtin.len_, e2, run_underlying (tSliceElem_spec hs)]
          rfl
      · cases h
    · cases h
  · rename_i hc
    simp only [Option.bind_eq_some_iff] at h
    obtain ⟨vs, hvs, h⟩ := h
    cases hs : vs.all scal with
    | false => rw [hs] at h; simp at h
    | true =>
      rw [hs] at h; simp only [cond_true] at h
      have e := (evs_sound hf hvs).scal_eq hs
      obtain ⟨h1, h2⟩ := prunS_sound (m := m) h
      refine ⟨v, fun w => ?_, h2⟩
      rw [execOp_builtin _ _ _ _ ho hc, toArray_map e.symm]
      simp [builtin, h1 w]
  · rename_i hc
    simp only [Option.bind_eq_some_iff] at h
    obtain ⟨vs, hvs, h⟩ := h
    cases hs : vs.all scal with
    | false => rw [hs] at h; simp at h
    | true =>
      rw [hs] at h; simp only [cond_true] at h
      have e := (evs_sound hf hvs).scal_eq hs
      obtain ⟨h1, h2⟩ := prunS_sound (m := m) h
      refine ⟨v, fun w => ?_, h2⟩
      rw [execOp_builtin _ _ _ _ ho hc, toArray_map e.symm]
      simp [builtin, h1 w]
  · cases h
theorem opt_sound {m : Mp} {nt : Nat} {fr : Fr} {a : Act} (h : FrRel m nt fr a.tmps) {x : Option Operand} {v : Option Value} (e : evPure.opt fr x = some v) : VO m v (x.map a.eval) := by
  cases x with
  | none => simp [evPure.opt] at e; subst e; exact .none
  | some x =>
    simp only [evPure.opt, Option.map_eq_some_iff] at e
    obtain ⟨u, e1, rfl⟩ := e
    exact .some (ev1_sound h e1)
theorem tIface_spec {P : Program} {t : TypeId} (h : (tIface P t == some false) = true) : ∃ d, P.underlying t = some d ∧ ∀ ms, d ≠ .interface ms := by
  simp only [beq_iff_eq] at h
  unfold tIface at h
  rw [Option.map_eq_some_iff] at h
  obtain ⟨d, hd, hb⟩ := h
  exact ⟨d, hd, fun ms e => by subst e; simp at hb⟩
theorem evPure_sound {P : Program} {m : Mp} {nt : Nat} {fr : Fr} {a : Act} (hf : FrRel m nt fr a.tmps) {o : Oper} {v : Value} (h : evPure P fr o = some v) :
    ∃ v', (∀ w, (execOp a.eval o).run P w = .ok (.value v') w) ∧ VRel m v v' := by
  unfold evPure at h
  split at h
  · rename_i x ho; exact ⟨_, fun w => by simp [execOp, ho], ev1_sound hf h⟩
  · rename_i x ho; exact ⟨_, fun w => by simp [execOp, ho], ev1_sound hf h⟩
  · rename_i c x y ho
    simp only [Option.bind_eq_some_iff] at h
    obtain ⟨cv, hc, h⟩ := h
    have hcr := ev1_sound hf hc
    generalize e : a.eval c = c' at hcr
    split at h
    · cases hcr with
      | bool => exact ⟨_, fun w => by simp [execOp, ho, e, asBool], ev1_sound hf h⟩
    · cases hcr with
      | bool => exact ⟨_, fun w => by simp [execOp, ho, e, asBool], ev1_sound hf h⟩
    · cases h
  · rename_i t parts ho
    simp only [Option.bind_eq_some_iff] at h
    obtain ⟨ps, hp, h⟩ := h
    obtain ⟨v', h1, h2⟩ := evBuild_sound h (evParts_sound hf hp)
    refine ⟨v', fun w => ?_, h2⟩
    have h1 := h1 w
    have e : (parts.toList.map fun (x : Nat × Operand) => (x.1, a.eval x.2)).toArray = parts.map fun (x : Nat × Operand) => (x.1, a.eval x.2) := by
      apply Array.toList_inj.1; simp
    simp only [e] at h1
    simp [execOp, ho, h1]
  · rename_i x ho
    simp only [Option.bind_eq_some_iff] at h
    obtain ⟨u, hu, h⟩ := h
    have hr := ev1_sound hf hu
    generalize e : a.eval x = x' at hr
    split at h
    · simp at h; subst h
      cases hr with
      | ptr hL => exact ⟨_, fun w => by simp [execOp, ho, e], .ptr hL⟩
    · cases h
  · rename_i op t x y yt ho
    simp only [Option.bind_eq_some_iff] at h
    obtain ⟨x1, hx, y1, hy, h⟩ := h
    obtain ⟨v', h1, h2⟩ := evBin_sound h (ev1_sound hf hx) (ev1_sound hf hy)
    refine ⟨v', fun w => ?_, h2⟩
    have h1 := h1 w
    simp only [Sem.run_bind] at h1
    cases hg : (eqGuard op t x y (a.eval x) (a.eval y)).run P w with
    | ok u w1 => rw [hg] at h1; simp at h1; simp [execOp, ho, hg, h1]
    | halt u w1 => rw [hg] at h1; simp at h1
  · rename_i op t x ho
    simp only [Option.bind_eq_some_iff] at h
    obtain ⟨x1, hx, h⟩ := h
    cases hs : scal x1 with
    | false => rw [hs] at h; simp at h
    | true =>
      rw [hs] at h; simp only [cond_true] at h
      have e := (ev1_sound hf hx).scal_eq hs
      obtain ⟨h1, h2⟩ := prunS_sound (m := m) h
      exact ⟨v, fun w => by simp [execOp, ho, e, h1 w], h2⟩
  · rename_i s d x ho
    simp only [Option.bind_eq_some_iff] at h
    obtain ⟨x1, hx, h⟩ := h
    cases hs : scal x1 with
    | false => rw [hs] at h; simp at h
    | true =>
      rw [hs] at h; simp only [cond_true] at h
      have e := (ev1_sound hf hx).scal_eq hs
      obtain ⟨h1, h2⟩ := prunS_sound (m := m) h
      exact ⟨v, fun w => by simp [execOp, ho, e, h1 w], h2⟩
  · rename_i t x ho
    simp only [Option.bind_eq_some_iff] at h
    obtain ⟨x1, hx, h⟩ := h
    cases hs : (tIface P t == some false) with
    | false => rw [hs] at h; simp at h
    | true =>
      rw [hs] at h; simp at h; subst h
      obtain ⟨d, hd, hn⟩ := tIface_spec hs
      refine ⟨_, fun w => ?_, .iface (ev1_sound hf hx)⟩
      have : (Instr.makeInterface t (a.eval x)).run P w = .ok (.iface t (a.eval x)) w := by
        simp only [Instr.makeInterface, Sem.run_bind, run_underlying hd, Result.andThen_ok]
        cases d <;> first | rfl | exact absurd rfl (hn _)
      simp [execOp, ho, this]
  · rename_i f first captured ho
    simp only [Option.bind_eq_some_iff, Option.some.injEq] at h
    obtain ⟨fs, hfs, cs, hcs, rfl⟩ := h
    refine ⟨.func (.func f) (first.map a.eval) (captured.map a.eval), fun w => by simp [execOp, ho, Instr.makeFunc], .func ?_ ?_⟩
    · simpa using evs_sound hf hfs
    · simpa using evs_sound hf hcs
  · rename_i t x i ho
    simp only [Option.bind_eq_some_iff] at h
    obtain ⟨x1, hx, h⟩ := h
    obtain ⟨v', h1, h2⟩ := evFieldAddr_sound h (ev1_sound hf hx)
    exact ⟨v', fun w => by simp [execOp, ho, h1 w], h2⟩
  · rename_i t x i ho
    simp only [Option.bind_eq_some_iff] at h
    obtain ⟨x1, hx, h⟩ := h
    obtain ⟨v', h1, h2⟩ := evField_sound h (ev1_sound hf hx)
    exact ⟨v', fun w => by simp [execOp, ho, h1 w], h2⟩
  · rename_i t x i ho
    simp only [Option.bind_eq_some_iff] at h
    obtain ⟨x1, hx, y1, hy, h⟩ := h
    obtain ⟨v', h1, h2⟩ := evIndexAddr_sound h (ev1_sound hf hx) (ev1_sound hf hy)
    exact ⟨v', fun w => by simp [execOp, ho, h1 w], h2⟩
  · rename_i t x i ho
    simp only [Option.bind_eq_some_iff] at h
    obtain ⟨x1, hx, y1, hy, h⟩ := h
    obtain ⟨v', h1, h2⟩ := evIndex_sound h (ev1_sound hf hx) (ev1_sound hf hy)
    exact ⟨v', fun w => by simp [execOp, ho, h1 w], h2⟩
  · rename_i t x lo hi mx ho
    simp only [Option.bind_eq_some_iff] at h
    obtain ⟨x1, hx, lo1, hlo, hi1, hhi, mx1, hmx, h⟩ := h
    obtain ⟨v', h1, h2⟩ := evSlice_sound h (ev1_sound hf hx) (opt_sound hf hlo) (opt_sound hf hhi) (opt_sound hf hmx)
    exact ⟨v', fun w => by simp [execOp, ho, h1 w], h2⟩
  · rename_i x i ho
    simp only [Option.bind_eq_some_iff] at h
    obtain ⟨x1, hx, h⟩ := h
    have hr := ev1_sound hf hx
    split at h
    · generalize he : a.eval x = x' at hr
      cases hr with
      | tuple hr =>
        obtain ⟨v', h1, h2⟩ := hr.getElem? i (by simpa using h)
        refine ⟨v', fun w => ?_, h2⟩
        simp at h1
        simp [execOp, ho, he, Instr.extract, h1]
    · cases h
  · rename_i c ho
    exact evPureCall_sound hf h ho
  · cases h
end Go.Ev
namespace Go.Ev
open Go
set_option linter.unusedSimpArgs false
set_option linter.unusedVariables false
inductive EL (m : Mp) : List MapEntry → List MapEntry → Prop
  | nil : EL m [] []
  | cons {e e' : MapEntry} {l l' : List MapEntry} (hk : e'.key = e.key) (hf : flat e.key = true) (hv : VRel m e.val e'.val) (hb : e'.born = e.born) (t : EL m l l') : EL m (e :: l) (e' :: l')
theorem EL.mono {m m' : Mp} (hm : m.le m') {l l' : List MapEntry} (h : EL m l l') : EL m' l l' := by
  induction h with
  | nil => exact .nil
  | cons hk hf hv hb t ih => exact .cons hk hf (hv.mono hm) hb ih
theorem EL.length {m : Mp} {l l' : List MapEntry} (h : EL m l l') : l.length = l'.length := by
  induction h with
  | nil => rfl
  | cons hk hf hv hb t ih => simp [ih]
theorem EL.getElem? {m : Mp} {l l' : List MapEntry} (h : EL m l l') : ∀ (i : Nat) {e : MapEntry}, l[i]? = some e → ∃ e', l'[i]? = some e' ∧ e'.key = e.key ∧ flat e.key = true ∧ VRel m e.val e'.val ∧ e'.born = e.born := by
  induction h with
  | nil => intro i e h; simp at h
  | cons hk hf hv hb t ih =>
    intro i e h
    cases i with
    | zero => simp at h; subst h; exact ⟨_, rfl, hk, hf, hv, hb⟩
    | succ i => simp at h; simpa using ih i h
theorem EL.append {m : Mp} {a a' b b' : List MapEntry} (h : EL m a a') (k : EL m b b') : EL m (a ++ b) (a' ++ b') := by
  induction h with
  | nil => exact k
  | cons hk hf hv hb t ih => exact .cons hk hf hv hb ih
theorem EL.eraseIdx {m : Mp} {l l' : List MapEntry} (h : EL m l l') : ∀ i, EL m (l.eraseIdx i) (l'.eraseIdx i) := by
  induction h with
  | nil => intro i; simp; exact .nil
  | cons hk hf hv hb t ih => intro i; cases i with
    | zero => exact t
    | succ i => exact .cons hk hf hv hb (ih i)
theorem EL.set {m : Mp} {l l' : List MapEntry} (h : EL m l l') {k v v' : Value} (hk : flat k = true) (hv : VRel m v v') : ∀ (i : Nat) {e e' : MapEntry}, l[i]? = some e → l'[i]? = some e' →
    EL m (l.set i { e with key := k, val := v }) (l'.set i { e' with key := k, val := v' }) := by
  induction h with
  | nil => intro i e e' h; simp at h
  | cons hk' hf' hv' hb' t ih =>
    intro i e e' h h'
    cases i with
    | zero => simp at h h'; subst h; subst h'; exact .cons rfl hk hv hb' t
    | succ i => simp at h h'; exact .cons hk' hf' hv' hb' (ih i h h')
def liveO : Option Ob → Prop
  | some (.row _ _ (.rw _ _)) => True
  | some (.map _ _) => True
  | _ => False
def live (h : Hp) (b : Nat) : Prop := liveO (h.get b)
def inertO : Option Ob → Prop
  | none => True
  | some (.row _ _ .dead) => True
  | _ => False
def inert (h : Hp) (b : Nat) : Prop := inertO (h.get b)
def notDead : St → Prop
  | .dead => False
  | _ => True
def Elder (h : Hp) (b b' : Nat) : Prop := ∃ cs e base olds cs2 e2, h.get b = some (.row cs e (.rw base olds)) ∧ b' ∈ olds ∧ h.get b' = some (.row cs2 e2 .ro) ∧ cs2.length ≤ base
structure Rep (P : Program) (m : Mp) (h : Hp) (w : World) : Prop where
  rng : ∀ b L, m b = some L → L.blk < w.heap.size
  frs : ∀ b, h.next ≤ b → h.get b = none ∧ m b = none
  row : ∀ b cs e st, h.get b = some (.row cs e st) → notDead st → ∃ L cs' fz, m b = some L ∧ w.heap[L.blk]? = some (.cells cs' e fz) ∧ VL m cs (cs'.toList.take cs.length)
  rw : ∀ b cs e base olds, h.get b = some (.row cs e (.rw base olds)) → ∃ L cs' n, m b = some L ∧ w.heap[L.blk]? = some (.cells cs' e (0, 0)) ∧ (tSize P e = some n ∨ L.extra = 0) ∧ cs'.size = cs.length + L.extra * n
  map : ∀ b es ck, h.get b = some (.map es ck) → ∃ L es', m b = some L ∧ w.heap[L.blk]? = some (.map es' ck) ∧ EL m es es'.toList
  sep : ∀ b b' L L', live h b → b ≠ b' → m b = some L → m b' = some L' → L.blk = L'.blk → inert h b' ∨ Elder h b b'
theorem Rep.drew {P : Program} {m : Mp} {h : Hp} {w : World} (r : Rep P m h w) : Rep P m h { w with drawn := w.drawn + 1 } :=
  ⟨r.rng, r.frs, r.row, r.rw, r.map, r.sep⟩
theorem rowOf_spec {h : Hp} {b : Nat} {cs : List Value} (e : rowOf h b = some cs) : ∃ el st, h.get b = some (.row cs el st) ∧ notDead st := by
  unfold rowOf at e
  split at e
  · cases e
  · rename_i cs' el st hg hb
    simp at e; subst e
    refine ⟨el, st, hb, ?_⟩
    cases st with
    | dead => simp_all
    | _ => trivial
  · cases e
theorem cell?_of {w : World} {c o : Nat} {cs : Array Value} {e : TypeId} {fz : Nat × Nat} (h : w.heap[c]? = some (.cells cs e fz)) : w.cell? ⟨c, o, none⟩ = cs[o]? := by
  simp [World.cell?, h]
theorem Rep.cell {P : Program} {m : Mp} {h : Hp} {w : World} (r : Rep P m h w) {b : Nat} {cs : List Value} (e : rowOf h b = some cs) : ∃ L cs' el fz, m b = some L ∧ w.heap[L.blk]? = some (.cells cs' el fz) ∧ VL m cs (cs'.toList.take cs.length) ∧
    cs.length ≤ cs'.size := by
  obtain ⟨el, st, hg, hn⟩ := rowOf_spec e
  obtain ⟨L, cs', fz, h1, h2, h3⟩ := r.row b cs el st hg hn
  refine ⟨L, cs', el, fz, h1, h2, h3, ?_⟩
  have := h3.length
  simp at this
  omega
theorem run_cells {P : Program} {w : World} {c o : Nat} {cs : Array Value} {e : TypeId} {fz : Nat × Nat} (h : w.heap[c]? = some (.cells cs e fz)) (l : List Value) (hl : ∀ j v, l[j]? = some v → cs[o + j]? = some v) :
    (loadCells ⟨c, o, none⟩ l.length).run P w = .ok l.toArray w :=
  run_loadCells_list w _ l fun j v hv => by rw [Addr_add0 _ rfl, cell?_of h]; exact hl j v hv
theorem take_of_VL {m : Mp} {cs : List Value} {cs' : Array Value} (h : VL m cs (cs'.toList.take cs.length)) (o n : Nat) (hn : o + n ≤ cs.length) : ∃ l, l.length = n ∧ VL m ((cs.drop o).take n) l ∧ ∀ (j : Nat) (v : Value), l[j]? = some v → cs'[o + j]? = some v := by
  have hlen := h.length
  simp at hlen
  refine ⟨((cs'.toList.take cs.length).drop o).take n, by simp; omega, (h.drop o).take n, fun j v hv => ?_⟩
  rw [List.getElem?_take] at hv
  split at hv
  · rw [List.getElem?_drop, List.getElem?_take] at hv
    split at hv
    · simpa using hv
    · cases hv
  · cases hv
theorem evPart_load {P : Program} {m : Mp} {w : World} {t : TypeId} {cs : List Value} {cs' : Array Value} {el : TypeId} {fz : Nat × Nat} {c o : Nat} {v : Value} (h : evPart P t cs o = some v)
    (hh : w.heap[c]? = some (.cells cs' el fz)) (hr : VL m cs (cs'.toList.take cs.length)) :
    ∃ v', (loadVar t ⟨c, o, none⟩).run P w = .ok v' w ∧ VRel m v v' := by
  unfold evPart at h
  split at h
  · rename_i ha
    rw [Option.bind_eq_some_iff] at h
    obtain ⟨n, hn, h⟩ := h
    cases hd : decide (o + n ≤ cs.length) with
    | false => rw [hd] at h; simp at h
    | true =>
      rw [hd] at h; simp at h hd; subst h
      obtain ⟨l, hl, hv, hc⟩ := take_of_VL hr o n hd
      refine ⟨.agg l.toArray, ?_, .agg (by simpa using hv)⟩
      have := run_cells (P := P) hh l hc
      rw [hl] at this
      simp [loadVar, run_isAgg ha, run_sizeOf hn, this]
  · rename_i ha
    obtain ⟨v', e', r⟩ := hr.getElem? o h
    rw [List.getElem?_take] at e'
    split at e'
    · refine ⟨v', ?_, r⟩
      simp at e'
      simp [loadVar, run_isAgg ha, load, Sem.run, cell?_of hh, e']
    · cases e'
  · cases h
theorem evLoad_sound {P : Program} {m : Mp} {h : Hp} {w : World} (r : Rep P m h w) {t : TypeId} {v v' u : Value} (e : evLoad P t v h = some u) (hv : VRel m v v') :
    ∃ u', (Instr.loadAt t v').run P w = .ok u' w ∧ VRel m u u' := by
  unfold evLoad at e
  split at e
  · rename_i b o
    rw [Option.bind_eq_some_iff] at e
    obtain ⟨cs, hc, e⟩ := e
    obtain ⟨L, cs', el, fz, h1, h2, h3, _⟩ := r.cell hc
    cases hv with
    | ptr hL =>
      rename_i L2
      have : L2 = L := by rw [hL] at h1; exact Option.some.inj h1
      subst this
      obtain ⟨u', g1, g2⟩ := evPart_load e h2 h3
      exact ⟨u', by simp [Instr.loadAt, Instr.sureAddr, g1], g2⟩
  · cases e
theorem scals_ints {l : List UInt8} {m : Mp} : VL m (l.map fun b => Value.int .u8 b.toNat) (l.map fun b => Value.int .u8 b.toNat) := by
  induction l with
  | nil => exact .nil
  | cons x l ih => exact .cons (.int _ _) ih
theorem evCells_sound {P : Program} {m : Mp} {h : Hp} {w : World} (r : Rep P m h w) {size n : Nat} {v v' : Value} {cs : List Value} (e : evCells size n v h = some cs) (hv : VRel m v v')
    (hn : ∀ k, lenOf v = some k → n ≤ k) : ∃ cs', (Builtin.firstCells size n v').run P w = .ok cs' w ∧ VL m cs cs'.toList ∧ (∀ a l c, v = .slice a l c → cs.length = n * size) := by
  unfold evCells at e
  split at e
  · rename_i l c
    simp at e; subst e
    cases hv with
    | nils =>
      have := hn 0 rfl
      refine ⟨#[], by simp [Builtin.firstCells], .nil, fun a l c _ => ?_⟩
      have : n = 0 := by omega
      subst this; simp
  · rename_i b o l c
    cases hz : n * size == 0 with
    | true =>
      have hz0 : n * size = 0 := beq_iff_eq.1 hz
      rw [hz] at e; simp at e; subst e
      cases hv with
      | slc hL hl hc ha =>
        rename_i cap' L a
        refine ⟨#[], ?_, .nil, fun _ _ _ _ => by rw [hz0]; rfl⟩
        · have : (loadCells a (n * size)).run P w = .ok #[] w := by
            rw [hz0]; rfl
          simp [Builtin.firstCells, this]
    | false =>
      rw [hz] at e; simp only [cond_false, Option.bind_eq_some_iff] at e
      obtain ⟨xs, hx, e⟩ := e
      cases hd : decide (o + n * size ≤ xs.length) with
      | false => rw [hd] at e; simp at e
      | true =>
        rw [hd] at e; simp at e hd; subst e
        obtain ⟨L, cs', el, fz, h1, h2, h3, _⟩ := r.cell hx
        cases hv with
        | slc hL hl hc ha =>
          rename_i cap' L2 a
          have : L2 = L := by rw [hL] at h1; exact Option.some.inj h1
          subst this
          have hnl := hn l rfl
          have hpos : 0 < n := by
            rcases Nat.eq_zero_or_pos n with h0 | h0
            · subst h0; simp at hz
            · exact h0
          have ha := ha.resolve_right (by omega)
          subst ha
          obtain ⟨l', hl', hv, hcc⟩ := take_of_VL h3 o (n * size) hd
          refine ⟨l'.toArray, ?_, by simpa using hv, fun _ _ _ _ => ?_⟩
          · have := run_cells (P := P) h2 l' hcc
            rw [hl'] at this
            simp [Builtin.firstCells, this]
          · rw [hv.length, hl']
  · rename_i s
    simp only [Option.some.injEq] at e; subst e
    cases hv
    refine ⟨((s.extract 0 n).data.map fun b => .int .u8 b.toNat), by simp [Builtin.firstCells], ?_, fun a l c h => by cases h⟩
    rw [Array.toList_map]
    exact scals_ints
  · cases e
theorem toBytes_spec : ∀ {cs : List Value} {l : List UInt8}, toBytes cs = some l → ∃ ns : List Int, cs = ns.map (Value.int .u8) ∧ ∀ s : ByteArray, ns.foldl (fun r n => r.push (UInt8.ofNat n.toNat)) s = ⟨(s.data.toList ++ l).toArray⟩
  | [], l, h => by simp [toBytes] at h; subst h; exact ⟨[], rfl, fun s => by simp⟩
  | c :: cs, l, h => by
    unfold toBytes at h
    split at h
    · rename_i heq; cases heq
    · rename_i n l2 heq
      simp only [List.cons.injEq] at heq
      obtain ⟨rfl, rfl⟩ := heq
      rw [Option.map_eq_some_iff] at h
      obtain ⟨l', h', rfl⟩ := h
      obtain ⟨ns, e1, e2⟩ := toBytes_spec h'
      refine ⟨n :: ns, by simp [e1], fun s => ?_⟩
      simp only [List.foldl_cons, e2]
      congr 1
      simp [ByteArray.push]
    · cases h
theorem mapOf_sound {P : Program} {m : Mp} {h : Hp} {w : World} (r : Rep P m h w) {v v' : Value} {es : List MapEntry} (e : mapOf h v = some es) (hv : VRel m v v') :
    ∃ es' : Array MapEntry, EL m es es'.toList ∧ ((v' = .map none ∧ es' = #[]) ∨ ∃ r' ck, v' = .map (some r') ∧ w.heap[r']? = some (.map es' ck)) := by
  unfold mapOf at e
  split at e
  · simp at e; subst e; cases hv; exact ⟨#[], .nil, .inl ⟨rfl, rfl⟩⟩
  · rename_i b
    split at e
    · rename_i es2 ck hg
      simp at e; subst e
      obtain ⟨L, es', h1, h2, h3⟩ := r.map b es2 ck hg
      cases hv with
      | mp hL =>
        rename_i L2
        have : L2 = L := by rw [hL] at h1; exact Option.some.inj h1
        subst this
        exact ⟨es', h3, .inr ⟨_, _, rfl, h2⟩⟩
    · cases e
  · cases e
theorem prun_bind {α β : Type} {P : Program} : ∀ (s : Sem α) (f : α → Sem β), prun P (s >>= f) = (prun P s).bind fun a => prun P (f a) := by
  intro s
  induction s with
  | pure a => intro f; rfl
  | program k ih => intro f; exact ih P f
  | mark mk k ih => intro f; exact ih f
  | _ => intro f; rfl
inductive FR (m : Mp) : Option (Nat × Value) → Option (Nat × Value) → Prop
  | none : FR m none none
  | some {i : Nat} {v v' : Value} (h : VRel m v v') : FR m (some (i, v)) (some (i, v'))
theorem findNow_rel {m : Mp} {kd : TypeDesc} {k : Value} {l l' : List MapEntry} (h : EL m l l') : ∀ i, (Instr.findNow kd k l i = none → Instr.findNow kd k l' i = none) ∧
    ∀ r, Instr.findNow kd k l i = some r → ∃ r', Instr.findNow kd k l' i = some r' ∧ FR m r r' := by
  induction h with
  | nil => intro i; exact ⟨fun h => h, fun r h => by simp [Instr.findNow] at h; subst h; exact ⟨_, rfl, .none⟩⟩
  | cons hk hf hv hb t ih =>
    intro i
    simp only [Instr.findNow, hk]
    cases hs : Instr.sameNow kd k _ with
    | none => exact ⟨fun _ => rfl, fun r h => by simp at h⟩
    | some b => cases b with
      | true => exact ⟨fun h => by simp at h, fun r h => by simp at h; subst h; exact ⟨_, rfl, .some hv⟩⟩
      | false => exact ih (i + 1)
theorem findAsking_rel {P : Program} {m : Mp} {kt : TypeId} {k : Value} {l l' : List MapEntry} (h : EL m l l') : ∀ i r, prun P (Instr.findAsking kt k l i) = some r →
    ∃ r', (∀ w, (Instr.findAsking kt k l' i).run P w = .ok r' w) ∧ FR m r r' := by
  induction h with
  | nil => intro i r h; simp only [Instr.findAsking] at h; exact ⟨none, fun w => rfl, by cases h; exact .none⟩
  | cons hk hf hv hb t ih =>
    intro i r h
    simp only [Instr.findAsking, prun_bind, Option.bind_eq_some_iff] at h
    obtain ⟨b, hb, h⟩ := h
    have hrun := fun w => prun_sound hb w
    cases b with
    | true =>
      simp only [if_true] at h
      cases h
      exact ⟨_, fun w => by simp [Instr.findAsking, hk, hrun w], .some hv⟩
    | false =>
      simp only [Bool.false_eq_true, if_false] at h
      obtain ⟨r', h1, h2⟩ := ih (i + 1) r h
      exact ⟨r', fun w => by simp [Instr.findAsking, hk, hrun w, h1 w], h2⟩
theorem findKey_rel {P : Program} {m : Mp} {kt : TypeId} {k : Value} {l l' : List MapEntry} (h : EL m l l') {r : Option (Nat × Value)} (e : prun P (Instr.findKey kt k l) = some r) :
    ∃ r', (∀ w, (Instr.findKey kt k l').run P w = .ok r' w) ∧ FR m r r' := by
  simp only [Instr.findKey, prun_bind, Option.bind_eq_some_iff] at e
  obtain ⟨kd, hk, e⟩ := e
  have hk' := fun w => prun_sound hk w
  obtain ⟨h0, h1⟩ := findNow_rel (kd := kd) (k := k) h 0
  cases hf : Instr.findNow kd k l 0 with
  | none =>
    rw [hf] at e
    obtain ⟨r', g1, g2⟩ := findAsking_rel h 0 r e
    exact ⟨r', fun w => by simp [Instr.findKey, hk' w, h0 hf, g1 w], g2⟩
  | some x =>
    rw [hf] at e
    cases e
    obtain ⟨r', g1, g2⟩ := h1 _ hf
    exact ⟨r', fun w => by simp [Instr.findKey, hk' w, g1], g2⟩
theorem look_rel {P : Program} {m : Mp} {kt : TypeId} {k : Value} {l l' : List MapEntry} (h : EL m l l') {b : Bool} {r : Option (Nat × Value)}
    (e : prun P (do Instr.checkKey b 10000 kt k; Instr.findKey kt k l) = some r) :
    (∀ w, (Instr.checkKey b 10000 kt k).run P w = .ok () w) ∧ ∃ r', (∀ w, (Instr.findKey kt k l').run P w = .ok r' w) ∧ FR m r r' := by
  simp only [prun_bind, Option.bind_eq_some_iff] at e
  obtain ⟨u, h1, h2⟩ := e
  exact ⟨fun w => prun_sound h1 w, findKey_rel h h2⟩
theorem EL.isEmpty {m : Mp} {l : List MapEntry} {a : Array MapEntry} (h : EL m l a.toList) : a.isEmpty = l.isEmpty := by
  have := h.length
  cases l with
  | nil => simp at this; simp [Array.isEmpty, this]
  | cons x l => simp at this; simp [Array.isEmpty]; intro h; rw [h] at this; simp at this
theorem evLookup_sound {P : Program} {m : Mp} {h : Hp} {w : World} (r : Rep P m h w) {t : TypeId} {x x' k k' v : Value} {ok : Bool} (e : evLookup P t x k ok h = some v) (hx : VRel m x x') (hk : VRel m k k') :
    ∃ v', (Instr.lookup t x' k' ok).run P w = .ok v' w ∧ VRel m v v' := by
  simp only [evLookup, Option.bind_eq_some_iff] at e
  obtain ⟨⟨kt, et⟩, ht, e⟩ := e
  simp only at e
  cases hf : flat k with
  | false => rw [hf] at e; simp at e
  | true =>
    rw [hf] at e
    simp only [Bool.not_true, cond_false, Option.bind_eq_some_iff] at e
    obtain ⟨es, hes, res, hres, e⟩ := e
    rw [hk.flat_eq hf]
    obtain ⟨es', h1, h2⟩ := mapOf_sound r hes hx
    obtain ⟨hck, r', hr1, hr2⟩ := look_rel h1 hres
    have hrun : ∀ u b2, (match r' with | some (_, v) => v = u ∧ b2 = true | none => tZero P et = some u ∧ b2 = false) →
        (Instr.lookup t x' k ok).run P w = .ok (if ok then .tuple #[u, .bool b2] else u) w := by
      intro u b2 hu
      rcases h2 with ⟨rfl, rfl⟩ | ⟨b, ck, rfl, hh⟩
      · have hr1 := fun w => hr1 w
        simp only [Instr.lookup, Sem.run_bind, run_underlying (tMap_spec ht), Result.andThen_ok, Sem.run_pure]
        have he := h1.isEmpty
        rw [he]
        simp only [hck, Result.andThen_ok, hr1]
        cases r' with
        | none => obtain ⟨hz, rfl⟩ := hu; simp [run_zeroValue hz]
        | some p => obtain ⟨i, v⟩ := p; obtain ⟨rfl, rfl⟩ := hu; simp
      · simp only [Instr.lookup, Sem.run_bind, run_underlying (tMap_spec ht), Result.andThen_ok, Sem.run_pure, getObj, Sem.run, hh]
        have he := h1.isEmpty
        rw [he]
        simp only [hck, Result.andThen_ok, hr1]
        cases r' with
        | none => obtain ⟨hz, rfl⟩ := hu; simp [run_zeroValue hz]
        | some p => obtain ⟨i, v⟩ := p; obtain ⟨rfl, rfl⟩ := hu; simp
    cases hr2 with
    | none =>
      simp only [Option.bind_eq_some_iff] at e
      obtain ⟨z, hz, e⟩ := e
      cases hfz : flat z with
      | false => rw [hfz] at e; simp at e
      | true =>
        rw [hfz] at e; simp only [cond_true, Option.some.injEq] at e; subst e
        refine ⟨_, hrun z false ⟨hz, rfl⟩, ?_⟩
        cases ok
        · exact flat_refl hfz
        · exact .tuple (.cons (flat_refl hfz) (.cons (.bool _) .nil))
    | some hv =>
      rename_i i u u'
      simp only [Option.some.injEq] at e; subst e
      refine ⟨_, hrun u' true ⟨rfl, rfl⟩, ?_⟩
      cases ok
      · exact hv
      · exact .tuple (.cons hv (.cons (.bool _) .nil))
theorem alive_spec {h : Hp} {b : Nat} (e : evRead.alive h b = true) : ∃ cs el, h.get b = some (.row cs el (.rw 0 [])) := by
  unfold evRead.alive at e
  split at e
  · rename_i cs el hg; exact ⟨_, _, hg⟩
  · cases e
theorem Rep.apart {P : Program} {m : Mp} {h : Hp} {w : World} (r : Rep P m h w) {a b : Nat} {La Lb : Loc} (ha : evRead.alive h a = true) (hb : evRead.alive h b = true) (hma : m a = some La) (hmb : m b = some Lb) (hab : a ≠ b) : La.blk ≠ Lb.blk := by
  intro he
  obtain ⟨cs, el, hg⟩ := alive_spec ha
  obtain ⟨cs2, el2, hg2⟩ := alive_spec hb
  rcases r.sep a b La Lb (by simp [live, liveO, hg]) hab hma hmb he with h1 | ⟨_, _, _, olds, _, _, h1, h2, h3, _⟩
  · simp [inert, inertO, hg2] at h1
  · rw [hg] at h1; simp at h1; obtain ⟨_, _, _, rfl⟩ := h1; simp at h2
theorem frozen_of {w : World} {c o : Nat} {cs : Array Value} {e : TypeId} (h : w.heap[c]? = some (.cells cs e (0, 0))) : w.frozen? ⟨c, o, none⟩ = false := by
  simp [World.frozen?, h]
theorem shape_of {w : World} {c : Nat} {cs : Array Value} {e : TypeId} {fz : Nat × Nat} (h : w.heap[c]? = some (.cells cs e fz)) : w.shape? c = some (e, cs.size) := by
  simp [World.shape?, h]
theorem run_sameAddr {P : Program} {w : World} {a b : Nat} {i j : Nat} {ca cb : Array Value} {ea eb : TypeId} (ha : w.heap[a]? = some (.cells ca ea (0, 0))) (hb : w.heap[b]? = some (.cells cb eb (0, 0))) :
    (sameAddr ⟨a, i, none⟩ ⟨b, j, none⟩).run P w = .ok (a == b && i == j) w := by
  unfold sameAddr
  by_cases hab : a = b
  · subst hab
    have e1 : (a == a) = true := beq_self_eq_true a
    by_cases hij : i = j
    · subst hij; simp
    · have e2 : (i == j) = false := beq_eq_false_iff_ne.2 hij
      simp [e2, hij]
  · have hab' : (a == b) = false := beq_eq_false_iff_ne.2 hab
    simp [hab, frozen_of ha, frozen_of hb, noView, viewAt, shape_of ha, shape_of hb, mayBeOne, stringish]
theorem tPtr2_spec {P : Program} {t : TypeId} (h : evRead.tPtr P t = true) : ∃ e n, P.underlying t = some (.pointer e) ∧ tSize P e = some (n + 1) := by
  unfold evRead.tPtr at h
  split at h
  · rename_i e hu
    split at h
    · rename_i n hn; exact ⟨e, n, hu, hn⟩
    · cases h
  · cases h
theorem run_eqIn_ptrs {P : Program} {t : TypeId} {e : TypeId} {n : Nat} (hu : P.underlying t = some (.pointer e)) (hn : tSize P e = some (n + 1)) (a b : Addr) (w : World) (d : Nat) :
    (Op.equalIn (d + 1) t (.pointer (some a)) (.pointer (some b))).run P w = (sameAddr a b).run P w := by
  simp [Op.equalIn, run_underlying hu, run_sizeOf hn]
theorem run_eqPtrs {P : Program} {t : TypeId} {e : TypeId} {n : Nat} (hu : P.underlying t = some (.pointer e)) (hn : tSize P e = some (n + 1)) (a b : Addr) (w : World) :
    (Op.equal t (.pointer (some a)) (.pointer (some b))).run P w = (sameAddr a b).run P w := run_eqIn_ptrs hu hn a b w 9999
theorem evPtrs_sound {P : Program} {m : Mp} {h : Hp} {w : World} (r : Rep P m h w) {t : TypeId} {a b i j : Nat} {x' y' : Value} (hx : VRel m (.pointer (some ⟨a, i, none⟩)) x') (hy : VRel m (.pointer (some ⟨b, j, none⟩)) y')
    (e : (evRead.tPtr P t && evRead.alive h a && evRead.alive h b) = true) (xo yo : Operand) (op : BinOp) (hop : op = .eql ∨ op = .neq) :
    (do eqGuard op t xo yo x' y'; binOp op t x' y' : Sem Value).run P w = .ok (.bool (if op = .eql then (a == b && i == j) else !(a == b && i == j))) w := by
  simp only [Bool.and_eq_true] at e
  obtain ⟨⟨h1, h2⟩, h3⟩ := e
  obtain ⟨el, n, hu, hn⟩ := tPtr2_spec h1
  cases hx with
  | ptr hLa => cases hy with
    | ptr hLb =>
      rename_i La Lb
      obtain ⟨ca, ea, ga⟩ := alive_spec h2
      obtain ⟨cb, eb, gb⟩ := alive_spec h3
      obtain ⟨La', ca', na, k1, k2, k3, k4⟩ := r.rw _ _ _ _ _ ga
      obtain ⟨Lb', cb', nb, l1, l2, l3, l4⟩ := r.rw _ _ _ _ _ gb
      have e1 : La = La' := by rw [hLa] at k1; exact Option.some.inj k1
      have e2 : Lb = Lb' := by rw [hLb] at l1; exact Option.some.inj l1
      subst e1; subst e2
      have hs := run_sameAddr (P := P) (i := i) (j := j) k2 l2
      have hbk : (La.blk == Lb.blk) = (a == b) := by
        by_cases hab : a = b
        · subst hab
          rw [hLa] at hLb; cases hLb; simp
        · have := r.apart h2 h3 hLa hLb hab
          rw [beq_eq_false_iff_ne.2 this, beq_eq_false_iff_ne.2 hab]
      rw [hbk] at hs
      rcases hop with rfl | rfl <;> simp [eqGuard, binOp, run_eqPtrs hu hn, hs]
theorem evReadCall_sound {P : Program} {m : Mp} {nt : Nat} {fr : Fr} {a : Act} {h : Hp} {w : World} (r : Rep P m h w) (hf : FrRel m nt fr a.tmps) {o : Oper} {c : Call} {v : Value} (e : evReadCall P fr c h = some v) (ho : o.op = .call c) :
    ∃ v', (execOp a.eval o).run P w = .ok (.value v') w ∧ VRel m v v' := by
  unfold evReadCall at e
  split at e
  · rename_i hc
    split at e
    · rename_i x t ts hargs htys
      simp only [Option.bind_eq_some_iff] at e
      obtain ⟨x1, hx, e⟩ := e
      have hr := ev1_sound hf hx
      have e1 : c.args.map a.eval = #[a.eval x] := toArray_map (l := [a.eval x]) (by simp [hargs])
      have e2 : c.argTypes[0]? = some t := by rw [← Array.getElem?_toList, htys]; rfl
      cases ht : tMap P t with
      | none => rw [ht] at e; simp at e
      | some ke =>
        obtain ⟨kt, et⟩ := ke
        rw [ht] at e; simp only [Option.isNone_some, cond_false, Option.map_eq_some_iff] at e
        obtain ⟨es, hes, rfl⟩ := e
        obtain ⟨es', h1, h2⟩ := mapOf_sound r hes hr
        have hl := h1.length
        refine ⟨_, ?_, .int _ _⟩
        rw [execOp_builtin _ _ _ _ ho hc, e1]
        rcases h2 with ⟨hn, rfl⟩ | ⟨b, ck, hn, hh⟩
        · simp at hl; subst hl
          simp [builtin, Builtin.len_, e2, run_underlying (tMap_spec ht), hn, goInt]
        · simp [builtin, Builtin.len_, e2, run_underlying (tMap_spec ht), hn, goInt, getObj, Sem.run, hh, hl]
    · cases e
  · cases e
theorem evRead_sound {P : Program} {m : Mp} {nt : Nat} {fr : Fr} {a : Act} {h : Hp} {w : World} (r : Rep P m h w) (hf : FrRel m nt fr a.tmps) {o : Oper} {v : Value} (e : evRead P fr o h = some v) :
    ∃ v', (execOp a.eval o).run P w = .ok (.value v') w ∧ VRel m v v' := by
  unfold evRead at e
  split at e
  · rename_i t x ho
    simp only [Option.bind_eq_some_iff] at e
    obtain ⟨x1, hx, e⟩ := e
    obtain ⟨v', h1, h2⟩ := evLoad_sound r e (ev1_sound hf hx)
    exact ⟨v', by simp [execOp, ho, h1], h2⟩
  · rename_i t x i ok ho
    simp only [Option.bind_eq_some_iff] at e
    obtain ⟨x1, hx, y1, hy, e⟩ := e
    obtain ⟨v', h1, h2⟩ := evLookup_sound r e (ev1_sound hf hx) (ev1_sound hf hy)
    exact ⟨v', by simp [execOp, ho, h1], h2⟩
  · rename_i s d x ho
    simp only [Option.bind_eq_some_iff] at e
    obtain ⟨x1, hx, e⟩ := e
    have hr := ev1_sound hf hx
    split at e
    · rename_i sl n cap
      simp only [Option.bind_eq_some_iff] at e
      obtain ⟨el, hel, e⟩ := e
      split at e
      · rename_i hu8 hstr
        simp only [Option.bind_eq_some_iff, Option.map_eq_some_iff] at e
        obtain ⟨cs, hcs, l, hl, rfl⟩ := e
        obtain ⟨cs', g1, g2, g3⟩ := evCells_sound r hcs hr (fun k hk => by simp [lenOf] at hk; omega)
        obtain ⟨ns, n1, n2⟩ := toBytes_spec hl
        have g2' : cs'.toList = cs := g2.scal_eq (by rw [n1]; simp [List.all_map, scal])
        refine ⟨_, ?_, .string _⟩
        generalize he : a.eval x = x' at hr g1
        obtain ⟨a2, c2, rfl⟩ : ∃ a2 c2, x' = .slice a2 n c2 := by cases hr <;> exact ⟨_, _, rfl⟩
        have hconv := run_convert_bytes_string (P := P) w s d el a2 n c2 (tSliceElem_spec hel) hu8 (tString_spec hstr)
        have hb : (Conv.bytesToString (.slice a2 n c2)).run P w = .ok (.string ⟨l.toArray⟩) w := by
          cases a2 with
          | none =>
            have h0 : l = [] := by
              simp [Builtin.firstCells] at g1
              subst g1
              simp at g2'; subst g2'
              cases ns with
              | nil => simp [toBytes] at hl; exact hl
              | cons => simp at n1
            subst h0
            rfl
          | some ad =>
            have hld : (loadCells ad n).run P w = .ok (ns.map (Value.int .u8)).toArray w := by
              simp [Builtin.firstCells] at g1
              rw [g1, ← n1, ← g2']
            rw [run_bytesToString w ad n c2 ns hld, n2]
            rfl
        simp [execOp, ho, he, hconv, hb]
      · cases e
    · cases e
  · rename_i c ho
    exact evReadCall_sound r hf e ho
  · rename_i op t x y yt ho
    simp only [Option.bind_eq_some_iff] at e
    obtain ⟨x1, hx, y1, hy, e⟩ := e
    have hrx := ev1_sound hf hx
    have hry := ev1_sound hf hy
    split at e
    · rename_i a1 i b1 j
      cases hb : (evRead.tPtr P t && evRead.alive h a1 && evRead.alive h b1) with
      | false => rw [hb] at e; simp at e
      | true =>
        rw [hb] at e; simp only [cond_true, Option.some.injEq] at e; subst e
        have hk := evPtrs_sound r hrx hry hb x y .eql (.inl rfl)
        refine ⟨_, ?_, .bool _⟩
        simp only [Sem.run_bind] at hk
        cases hg : (eqGuard .eql t x y (a.eval x) (a.eval y)).run P w with
        | ok u w1 => rw [hg] at hk; simp at hk; simp [execOp, ho, hg, hk]
        | halt u w1 => rw [hg] at hk; simp at hk
    · rename_i a1 i b1 j
      cases hb : (evRead.tPtr P t && evRead.alive h a1 && evRead.alive h b1) with
      | false => rw [hb] at e; simp at e
      | true =>
        rw [hb] at e; simp only [cond_true, Option.some.injEq] at e; subst e
        have hk := evPtrs_sound r hrx hry hb x y .neq (.inr rfl)
        refine ⟨_, ?_, .bool _⟩
        simp only [Sem.run_bind] at hk
        cases hg : (eqGuard .neq t x y (a.eval x) (a.eval y)).run P w with
        | ok u w1 => rw [hg] at hk; simp at hk; simp [execOp, ho, hg, hk]
        | halt u w1 => rw [hg] at hk; simp at hk
    · cases e
  · cases e
theorem evReadOrPure_sound {P : Program} {m : Mp} {nt : Nat} {fr : Fr} {a : Act} {h : Hp} {w : World} (r : Rep P m h w) (hf : FrRel m nt fr a.tmps) {o : Oper} {v : Value} (e : evReadOrPure P fr o h = some v) :
    ∃ v', (execOp a.eval o).run P w = .ok (.value v') w ∧ VRel m v v' := by
  unfold evReadOrPure at e
  split at e
  · rename_i u hu
    cases e
    exact evRead_sound r hf hu
  · obtain ⟨v', h1, h2⟩ := evPure_sound hf e
    exact ⟨v', h1 w, h2⟩
end Go.Ev
namespace Go.Ev
open Go
set_option linter.unusedSimpArgs false
set_option linter.unusedVariables false
structure Step (m : Mp) (h : Hp) (w : World) (m' : Mp) (h' : Hp) (w' : World) : Prop where
  le : m.le m'
  next : h.next ≤ h'.next
  size : w.heap.size ≤ w'.heap.size
  same : ∀ c, c < w.heap.size → (∀ b L, live h b → m b = some L → L.blk ≠ c) → w'.heap[c]? = w.heap[c]?
  liv : ∀ b L, live h' b → m' b = some L → L.blk < w.heap.size → ∃ b0 L0, live h b0 ∧ m b0 = some L0 ∧ L0.blk = L.blk
  old : ∀ b L, m' b = some L → L.blk < w.heap.size → ∃ b0 L0, m b0 = some L0 ∧ L0.blk = L.blk
  os : w'.os = w.os
  tape : w'.tape = w.tape
  output : w'.output = w.output
theorem Step.refl (m : Mp) (h : Hp) (w : World) : Step m h w m h w :=
  ⟨Mp.le_refl m, Nat.le_refl _, Nat.le_refl _, fun _ _ _ => rfl, fun b L hl hm _ => ⟨b, L, hl, hm, rfl⟩, fun b L hm _ => ⟨b, L, hm, rfl⟩, rfl, rfl, rfl⟩
theorem Step.trans {m m' m'' : Mp} {h h' h'' : Hp} {w w' w'' : World} (a : Step m h w m' h' w') (b : Step m' h' w' m'' h'' w'') : Step m h w m'' h'' w'' := by
  refine ⟨Mp.le_trans a.le b.le, Nat.le_trans a.next b.next, Nat.le_trans a.size b.size, fun c hc hn => ?_, fun x L hl hm hc => ?_, fun x L hm hc => ?_, b.os.trans a.os, b.tape.trans a.tape, b.output.trans a.output⟩
  · rw [← a.same c hc hn]
    refine b.same c (Nat.lt_of_lt_of_le hc a.size) fun x L hl hm e => ?_
    obtain ⟨b0, L0, h1, h2, h3⟩ := a.liv x L hl hm (by omega)
    exact hn b0 L0 h1 h2 (by omega)
  · obtain ⟨b0, L0, h1, h2, h3⟩ := b.liv x L hl hm (Nat.lt_of_lt_of_le hc a.size)
    obtain ⟨b1, L1, g1, g2, g3⟩ := a.liv b0 L0 h1 h2 (by omega)
    exact ⟨b1, L1, g1, g2, by omega⟩
  · obtain ⟨b0, L0, h2, h3⟩ := b.old x L hm (Nat.lt_of_lt_of_le hc a.size)
    obtain ⟨b1, L1, g2, g3⟩ := a.old b0 L0 h2 (by omega)
    exact ⟨b1, L1, g2, by omega⟩
theorem Step.drew (m : Mp) (h : Hp) (w : World) : Step m h w m h { w with drawn := w.drawn + 1 } :=
  ⟨Mp.le_refl m, Nat.le_refl _, Nat.le_refl _, fun _ _ _ => rfl, fun b L hl hm _ => ⟨b, L, hl, hm, rfl⟩, fun b L hm _ => ⟨b, L, hm, rfl⟩, rfl, rfl, rfl⟩
theorem Hp.get_set (h : Hp) (b : Nat) (o : Ob) (x : Nat) : (h.set b o).get x = if x = b then some o else h.get x := Tr.get_set _ _ _ _
theorem Hp.get_push (h : Hp) (o : Ob) (x : Nat) : (h.push o).get x = if x = h.next then some o else h.get x := Tr.get_set _ _ _ _
theorem Hp.next_set (h : Hp) (b : Nat) (o : Ob) : (h.set b o).next = h.next := rfl
theorem Hp.next_push (h : Hp) (o : Ob) : (h.push o).next = h.next + 1 := rfl
def Mp.upd (m : Mp) (b : Nat) (L : Loc) : Mp := fun x => if x = b then some L else m x
theorem Mp.le_upd {m : Mp} {b : Nat} {L : Loc} (h : m b = none) : m.le (m.upd b L) := fun x K e => by
  unfold Mp.upd
  split
  · rename_i hx; subst hx; rw [h] at e; cases e
  · exact e
theorem Mp.upd_self (m : Mp) (b : Nat) (L : Loc) : (m.upd b L) b = some L := by simp [Mp.upd]
inductive NewOb (m : Mp) : Ob → Obj → Nat → Prop
  | row {cs : List Value} {cs' : Array Value} {e : TypeId} {x : Nat} (h : VL m cs (cs'.toList.take cs.length)) (olds : List Nat) (base : Nat) (P : Program) (n : Nat) (hs : tSize P e = some n ∨ x = 0) (hn : cs'.size = cs.length + x * n) : NewOb m (.row cs e (.rw base olds)) (.cells cs' e (0, 0)) x
  | map : NewOb m (.map [] 0) (.map #[] 0) 0
theorem Rep.push {P : Program} {m : Mp} {h : Hp} {w w0 : World} (r : Rep P m h w0) (hw : w0.heap = w.heap) {ob : Ob} {ob' : Obj} {x : Nat}
    (hob : (∃ cs cs' e n base olds, ob = .row cs e (.rw base olds) ∧ ob' = .cells cs' e (0, 0) ∧ VL m cs (cs'.toList.take cs.length) ∧ (tSize P e = some n ∨ x = 0) ∧ cs'.size = cs.length + x * n) ∨ (ob = .map [] 0 ∧ ob' = .map #[] 0)) :
    Rep P (m.upd h.next ⟨w.heap.size, x⟩) (h.push ob) { w with heap := w.heap.push ob' } := by
  have hn := (r.frs h.next (Nat.le_refl _)).2
  have hle : m.le (m.upd h.next ⟨w.heap.size, x⟩) := Mp.le_upd hn
  have hg : ∀ b o, h.get b = some o → b ≠ h.next := fun b o e he => by
    have := (r.frs b (by omega)).1; rw [e] at this; cases this
  have hold : ∀ c : Nat, ∀ o, w.heap[c]? = some o → (w.heap.push ob')[c]? = some o := fun c o e => by
    have : c < w.heap.size := (Array.getElem?_eq_some_iff.1 e).1
    rw [Array.getElem?_push, if_neg (by omega)]; exact e
  have hnew : (w.heap.push ob')[w.heap.size]? = some ob' := by simp
  have hlv : ∀ b, live (h.push ob) b → b ≠ h.next → live h b := fun b hl hb => by
    unfold live at *; rw [Hp.get_push, if_neg hb] at hl; exact hl
  refine ⟨fun b L e => ?_, fun b hb => ?_, fun b cs e st hb hd => ?_, fun b cs e base olds hb => ?_, fun b es ck hb => ?_, fun b b' L L' hl hne hm hm' he => ?_⟩
  · unfold Mp.upd at e
    simp only [Array.size_push]
    split at e
    · cases e; simp
    · have := r.rng b L e; rw [hw] at this; omega
  · rw [Hp.next_push] at hb
    refine ⟨?_, ?_⟩
    · rw [Hp.get_push, if_neg (by omega)]; exact (r.frs b (by omega)).1
    · unfold Mp.upd; rw [if_neg (by omega)]; exact (r.frs b (by omega)).2
  · rw [Hp.get_push] at hb
    split at hb
    · rename_i hbn
      subst hbn
      rcases hob with ⟨cs1, cs', e1, n, base, olds, rfl, rfl, h1, h2, h3⟩ | ⟨rfl, rfl⟩
      · cases hb
        exact ⟨_, cs', (0, 0), Mp.upd_self _ _ _, hnew, h1.mono hle⟩
      · cases hb
    · obtain ⟨L, cs', fz, h1, h2, h3⟩ := r.row b cs e st hb hd
      rw [hw] at h2
      exact ⟨L, cs', fz, hle _ _ h1, hold _ _ h2, h3.mono hle⟩
  · rw [Hp.get_push] at hb
    split at hb
    · rename_i hbn
      subst hbn
      rcases hob with ⟨cs1, cs', e1, n, base, olds, rfl, rfl, h1, h2, h3⟩ | ⟨rfl, rfl⟩
      · cases hb
        exact ⟨_, cs', n, Mp.upd_self _ _ _, hnew, h2, h3⟩
      · cases hb
    · obtain ⟨L, cs', n, h1, h2, h3⟩ := r.rw b cs e base olds hb
      rw [hw] at h2
      exact ⟨L, cs', n, hle _ _ h1, hold _ _ h2, h3⟩
  · rw [Hp.get_push] at hb
    split at hb
    · rename_i hbn
      subst hbn
      rcases hob with ⟨cs1, cs', e1, n, base, olds, rfl, rfl, h1, h2, h3⟩ | ⟨rfl, rfl⟩
      · cases hb
      · cases hb
        exact ⟨_, #[], Mp.upd_self _ _ _, hnew, .nil⟩
    · obtain ⟨L, es', h1, h2, h3⟩ := r.map b es ck hb
      rw [hw] at h2
      exact ⟨L, es', hle _ _ h1, hold _ _ h2, h3.mono hle⟩
  · unfold Mp.upd at hm hm'
    split at hm
    · rename_i hbn
      cases hm
      rw [if_neg (by omega)] at hm'
      have := r.rng b' L' hm'
      rw [hw] at this
      simp at he; omega
    · rename_i hbn
      split at hm'
      · cases hm'
        have := r.rng b L hm
        rw [hw] at this
        simp at he; omega
      · rename_i hbn'
        rcases r.sep b b' L L' (hlv b hl hbn) hne hm hm' he with h1 | ⟨cs, e, base, olds, cs2, e2, h1, h2, h3, h4⟩
        · left; unfold inert at *; rw [Hp.get_push, if_neg hbn']; exact h1
        · right
          exact ⟨cs, e, base, olds, cs2, e2, by rw [Hp.get_push, if_neg hbn]; exact h1, h2, by rw [Hp.get_push, if_neg hbn']; exact h3, h4⟩
theorem Step.push {P : Program} {m : Mp} {h : Hp} {w : World} (r : Rep P m h w) (ob : Ob) (ob' : Obj) (x : Nat) :
    Step m h w (m.upd h.next ⟨w.heap.size, x⟩) (h.push ob) { w with heap := w.heap.push ob' } := by
  have hn := (r.frs h.next (Nat.le_refl _)).2
  refine ⟨Mp.le_upd hn, by rw [Hp.next_push]; omega, by simp, fun c hc _ => by rw [Array.getElem?_push, if_neg (by omega)], fun b L hl hm hc => ?_, fun b L hm hc => ?_, rfl, rfl, rfl⟩
  · unfold Mp.upd at hm
    split at hm
    · cases hm; simp at hc
    · rename_i hb
      refine ⟨b, L, ?_, hm, rfl⟩
      unfold live at *; rw [Hp.get_push, if_neg hb] at hl; exact hl
  · unfold Mp.upd at hm
    split at hm
    · cases hm; simp at hc
    · exact ⟨b, L, hm, rfl⟩
theorem range_flatten (z : Array Value) : ∀ n : Nat, ((Array.range (n * z.size)).map (fun i => z[i % z.size]!)).toList = (List.replicate n z.toList).flatten
  | 0 => by simp
  | n + 1 => by
    have ih := range_flatten z n
    simp only [Array.toList_map, Array.toList_range] at ih ⊢
    rw [show (n + 1) * z.size = n * z.size + z.size by rw [Nat.succ_mul], List.range_add, List.map_append, ih, List.replicate_succ', List.flatten_append]
    congr 1
    simp only [List.map_map, List.flatten_cons, List.flatten_nil, List.append_nil]
    apply List.ext_getElem?
    intro i
    by_cases hi : i < z.size
    · simp [hi, Nat.mod_eq_of_lt hi]
    · simp [hi]
theorem slc_exact {m : Mp} {b o len k : Nat} {L : Loc} (h : m b = some L) (hl : len ≤ k) : VRel m (.slice (some ⟨b, o, none⟩) len (2 * k)) (.slice (some ⟨L.blk, o, none⟩) len k) :=
  .slc h (by omega) (by rw [show 2 * k / 2 = k by omega, show 2 * k % 2 = 0 by omega]; simp) (.inl rfl)
theorem flat_cells {m : Mp} {z : Value} (h : flat z = true) : VL m z.cells.toList z.cells.toList := (flat_refl (m := m) h).cells (flat_boxable h)
theorem VL.replicate {m : Mp} {l l' : List Value} (h : VL m l l') : ∀ n, VL m (List.replicate n l).flatten (List.replicate n l').flatten
  | 0 => .nil
  | n + 1 => by rw [List.replicate_succ, List.replicate_succ, List.flatten_cons, List.flatten_cons]; exact h.append (VL.replicate h n)
def ObRel (m : Mp) (ob : Ob) (ob' : Obj) : Prop :=
  (∃ cs cs' e, ob = .row cs e (.rw 0 []) ∧ ob' = .cells cs' e (0, 0) ∧ VL m cs cs'.toList) ∨ (ob = .map [] 0 ∧ ob' = .map #[] 0)
theorem evNew_sound {P : Program} {m : Mp} {nt : Nat} {fr : Fr} {a : Act} (hf : FrRel m nt fr a.tmps) {o : Oper} {ob : Ob} {mk : Nat → Value} (e : evNew P fr o = some (ob, mk)) :
    ∃ (ob' : Obj) (mk' : Nat → Value), (∀ w, (execOp a.eval o).run P w = .ok (.value (mk' w.heap.size)) { w with heap := w.heap.push ob' }) ∧ ObRel m ob ob' ∧
      ∀ (m' : Mp) (b c : Nat), m' b = some ⟨c, 0⟩ → VRel m' (mk b) (mk' c) := by
  unfold evNew at e
  split at e
  · rename_i t ho
    simp only [Option.bind_eq_some_iff] at e
    obtain ⟨z, hz, e⟩ := e
    cases hfz : flat z with
    | false => rw [hfz] at e; simp at e
    | true =>
      rw [hfz] at e; simp only [Bool.not_true, cond_false, Option.some.injEq, Prod.mk.injEq] at e
      obtain ⟨rfl, rfl⟩ := e
      refine ⟨.cells z.cells t (0, 0), fun c => .pointer (some ⟨c, 0, none⟩), fun w => ?_, .inl ⟨_, _, _, rfl, rfl, flat_cells hfz⟩, fun m' b c hm => .ptr hm⟩
      simp [execOp, ho, Instr.alloc, run_zeroValue hz, newVar, newRow]
  · rename_i t x ho
    simp only [Option.bind_eq_some_iff] at e
    obtain ⟨v, hv, e⟩ := e
    have hbx : boxable v = true := by
      cases hb : boxable v with
      | true => rfl
      | false => rw [hb] at e; simp at e
    rw [hbx] at e
    simp only [cond_true, Option.some.injEq, Prod.mk.injEq] at e
    obtain ⟨rfl, rfl⟩ := e
    refine ⟨.cells (a.eval x).cells t (0, 0), fun c => .pointer (some ⟨c, 0, none⟩), fun w => ?_, .inl ⟨_, _, _, rfl, rfl, (ev1_sound hf hv).cells hbx⟩, fun m' b c hm => .ptr hm⟩
    simp [execOp, ho, Instr.box, newVar, newRow]
  · rename_i t len parts ho
    simp only [Option.bind_eq_some_iff] at e
    obtain ⟨el, hel, n, hn, z, hz, e⟩ := e
    cases hd : (decide (len * n ≤ 2 ^ 24) && (z.cells.size == n) && flat z) with
    | false => rw [hd] at e; simp at e
    | true =>
      rw [hd] at e
      simp only [cond_true, Option.bind_eq_some_iff, Option.map_eq_some_iff, Prod.mk.injEq] at e
      simp only [Bool.and_eq_true, decide_eq_true_eq, beq_iff_eq] at hd
      obtain ⟨⟨h1, h2⟩, h3⟩ := hd
      obtain ⟨ps, hps, cs, hcs, rfl, rfl⟩ := e
      have hzero : ((Array.range (len * n)).map fun i => z.cells[i % z.cells.size]!).toList = (List.replicate len z.cells.toList).flatten := by
        rw [← h2]; exact range_flatten z.cells len
      have hp := evParts_sound hf hps
      obtain ⟨r', g1, g2⟩ := fill_sound (cs' := if len * n = 0 then #[] else ((Array.range (len * n)).map fun i => z.cells[i % z.cells.size]!)) hp (by
        split
        · rename_i h0
          have : (List.replicate len z.cells.toList).flatten = [] := by rw [← hzero, h0]; simp
          rw [this]; exact .nil
        · rw [hzero]; exact (flat_cells h3).replicate len) hcs
      refine ⟨.cells r' el (0, 0), fun c => .slice (some ⟨c, 0, none⟩) len len, fun w => ?_, .inl ⟨_, _, _, rfl, rfl, g2⟩, fun m' b c hm => slc_exact hm (Nat.le_refl _)⟩
      have h1' : ¬ len * n > 2 ^ 24 := by omega
      have hpp : (parts.map fun (x : Nat × Operand) => (x.1, a.eval x.2)).toList = parts.toList.map fun (x : Nat × Operand) => (x.1, a.eval x.2) := by simp
      by_cases h0 : len * n = 0
      · rw [if_pos h0] at g1
        simp only [execOp, ho, Instr.buildSlice, Sem.run_bind, run_underlying (tSliceElem_spec hel), Result.andThen_ok, run_sizeOf hn, Sem.run_ite, if_neg h1', if_pos h0, Sem.run_pure, hpp]
        have er : Array.range 0 = #[] := Array.toList_inj.1 (by simp)
        have g1' : Instr.fill (fun i => some (i * n, n)) #[] (parts.toList.map fun (x : Nat × Operand) => (x.1, a.eval x.2)) = some r' := g1
        simp [h0, er, g1', newRow]
      · rw [if_neg h0] at g1
        simp only [execOp, ho, Instr.buildSlice, Sem.run_bind, run_underlying (tSliceElem_spec hel), Result.andThen_ok, run_sizeOf hn, Sem.run_ite, if_neg h1', if_neg h0, Sem.run_pure, run_zeroValue hz, hpp]
        rw [g1]
        simp [newRow]
  · rename_i t r ho
    cases hd : ((tMap P t).isSome && r.isNone) with
    | false => rw [hd] at e; simp at e
    | true =>
      rw [hd] at e; simp only [cond_true, Option.some.injEq, Prod.mk.injEq] at e
      obtain ⟨rfl, rfl⟩ := e
      simp only [Bool.and_eq_true, Option.isNone_iff_eq_none] at hd
      obtain ⟨_, rfl⟩ := hd
      refine ⟨.map #[] 0, fun c => .map (some c), fun w => ?_, .inr ⟨rfl, rfl⟩, fun m' b c hm => .mp hm⟩
      simp [execOp, ho, Instr.makeMap]
  · rename_i t l c ho
    simp only [Option.bind_eq_some_iff] at e
    obtain ⟨lv, hl, cv, hc, e⟩ := e
    have hlr := ev1_sound hf hl
    have hcr := ev1_sound hf hc
    split at e
    · rename_i l' c'
      generalize hel' : a.eval l = ll at hlr
      generalize hec' : a.eval c = cc at hcr
      cases hlr; cases hcr
      simp only [Option.bind_eq_some_iff] at e
      obtain ⟨el, hel, n, hn, by_, hb, z, hz, e⟩ := e
      cases hd : (decide (0 ≤ l') && decide (l' ≤ c') && decide (c' * ((by_ : Int) + 1) ≤ 2 ^ 47) && (z.cells.size == n) && flat z) with
      | false => rw [hd] at e; simp at e
      | true =>
        rw [hd] at e
        simp only [cond_true, Option.some.injEq, Prod.mk.injEq] at e
        simp only [Bool.and_eq_true, decide_eq_true_eq, beq_iff_eq] at hd
        obtain ⟨⟨⟨⟨h1, h2⟩, h3⟩, h4⟩, h5⟩ := hd
        obtain ⟨rfl, rfl⟩ := e
        have hc47 : c' ≤ 2 ^ 47 := by
          have : c' * 1 ≤ c' * ((by_ : Int) + 1) := Int.mul_le_mul_of_nonneg_left (by omega) (by omega)
          omega
        have hbc : (by_ : Int) * c' ≤ 2 ^ 47 := by
          have : c' * (by_ : Int) ≤ c' * ((by_ : Int) + 1) := Int.mul_le_mul_of_nonneg_left (by omega) (by omega)
          rw [Int.mul_comm]; omega
        have hwl : IntKind.i64.wrap l' = l' := IntWalk.i64_in _ (by omega)
        have hwc : IntKind.i64.wrap c' = c' := IntWalk.i64_in _ (by omega)
        unfold tBytes at hb
        rw [Option.map_eq_some_iff] at hb
        obtain ⟨ti, hti, rfl⟩ := hb
        have hzero : ((Array.range (c'.toNat * n)).map fun i => z.cells[i % z.cells.size]!).toList = (List.replicate c'.toNat z.cells.toList).flatten := by
          rw [← h4]; exact range_flatten z.cells _
        refine ⟨.cells ((Array.range (c'.toNat * n)).map fun i => (if c'.toNat * n = 0 then #[] else z.cells)[i % (if c'.toNat * n = 0 then #[] else z.cells).size]!) el (0, 0),
          fun x => .slice (some ⟨x, 0, none⟩) l'.toNat c'.toNat, fun w => ?_, .inl ⟨_, _, _, rfl, rfl, ?_⟩, fun m' b x hm => slc_exact hm (by omega)⟩
        · have er : Array.range 0 = #[] := Array.toList_inj.1 (by simp)
          have t1 : ¬ 281474976710656 < (ti.bytes : Int) * c' := by omega
          have t2 : ¬ c' < 0 := by omega
          have t3 : ¬ l' < 0 := by omega
          have t4 : ¬ l' > c' := by omega
          by_cases h0 : c'.toNat * n = 0
          · simp [execOp, ho, hel', hec', Instr.makeSlice, run_underlying (tSliceElem_spec hel), asInt, asIntOf, run_typeInfo hti, hwl, hwc, t1, t2, t3, t4, run_sizeOf hn, h0, er, newRow]
          · simp [execOp, ho, hel', hec', Instr.makeSlice, run_underlying (tSliceElem_spec hel), asInt, asIntOf, run_typeInfo hti, hwl, hwc, t1, t2, t3, t4, run_sizeOf hn, h0, run_zeroValue hz, newRow]
        · by_cases h0 : c'.toNat * n = 0
          · rw [← hzero, h0]; simp; exact .nil
          · simp only [if_neg h0]; rw [hzero]; exact (flat_cells h5).replicate _
    · cases e
  · cases e
end Go.Ev
namespace Go.Ev
open Go
set_option linter.unusedSimpArgs false
set_option linter.unusedVariables false
theorem setRow_other (w : World) (g : Nat) (cs : Array Value) (k : Nat) (h : k ≠ g) : (w.setRow g cs).heap[k]? = w.heap[k]? := by
  simp only [World.setRow, Array.getElem?_modify]
  rw [if_neg (by omega)]
theorem setRow_size (w : World) (g : Nat) (cs : Array Value) : (w.setRow g cs).heap.size = w.heap.size := by simp [World.setRow]
theorem writeAt_cells {h h' : Hp} {b o : Nat} {vs : List Value} (e : writeAt h b o vs = some h') : vs.all isCell = true := by
  unfold writeAt at e
  split at e
  · rename_i cs el base olds _
    cases hd : (decide (o + vs.length ≤ cs.length) && vs.all isCell) with
    | true => simp only [Bool.and_eq_true] at hd; exact hd.2
    | false => rw [hd] at e; simp at e
  · cases e
theorem kill_next : ∀ (l : List Nat) (h : Hp), (kill h l).next = h.next
  | [], _ => rfl
  | b :: l, h => by
    simp only [kill]
    rw [kill_next l]
    unfold kill1
    split <;> rfl
def deadOf : Option Ob → Option Ob
  | some (.row cs e _) => some (.row cs e .dead)
  | o => o
theorem deadOf_deadOf (o : Option Ob) : deadOf (deadOf o) = deadOf o := by
  cases o with
  | none => rfl
  | some o => cases o <;> rfl
theorem kill_get : ∀ (l : List Nat) (h : Hp) (x : Nat), (kill h l).get x = if x ∈ l then deadOf (h.get x) else h.get x
  | [], _, _ => by simp [kill]
  | b :: l, h, x => by
    simp only [kill]
    rw [kill_get l]
    have key : ∀ y, (kill1 h b).get y = if y = b then deadOf (h.get b) else h.get y := by
      intro y
      unfold kill1
      split
      · rename_i cs e st hg
        rw [Hp.get_set]
        split
        · rw [hg]; rfl
        · rfl
      · rename_i hg
        split
        · rename_i hy; subst hy
          cases ho : h.get y with
          | none => rfl
          | some o => cases o with
            | row cs e st => exact absurd ho (hg _ _ _)
            | map es ck => rfl
        · rfl
    rw [key]
    by_cases h1 : x = b
    · subst h1
      simp [deadOf_deadOf]
    · simp [h1]
theorem liveO_dead {o : Option Ob} (h : liveO (deadOf o)) : liveO o := by
  cases o with
  | none => exact h
  | some o => cases o with
    | row cs e st => simp [deadOf, liveO] at h
    | map es ck => exact h
theorem inertO_dead {o : Option Ob} (h : inertO o) : inertO (deadOf o) := by
  cases o with
  | none => exact h
  | some o => cases o with
    | row cs e st => simp [deadOf, inertO]
    | map es ck => exact h
theorem live_row {h : Hp} {b : Nat} {cs : List Value} {e : TypeId} {base : Nat} {olds : List Nat} (g : h.get b = some (.row cs e (.rw base olds))) : live h b := by simp [live, liveO, g]
theorem live_map {h : Hp} {b : Nat} {es : List MapEntry} {ck : Nat} (g : h.get b = some (.map es ck)) : live h b := by simp [live, liveO, g]
theorem not_inert {h : Hp} {b : Nat} (hl : live h b) : ¬ inert h b := by
  unfold live inert at *
  generalize h.get b = o at *
  intro hi
  cases o with
  | none => exact hl
  | some o => cases o with
    | row cs e st => cases st <;> simp [liveO, inertO] at *
    | map es ck => simp [inertO] at hi
theorem not_elder {h : Hp} {a b : Nat} (hl : live h b) : ¬ Elder h a b := by
  rintro ⟨_, _, _, _, _, _, _, _, h3, _⟩
  simp [live, liveO, h3] at hl
theorem Rep.live_apart {P : Program} {m : Mp} {h : Hp} {w : World} (r : Rep P m h w) {a b : Nat} {La Lb : Loc} (ha : live h a) (hb : live h b) (hma : m a = some La) (hmb : m b = some Lb) (hab : a ≠ b) : La.blk ≠ Lb.blk := fun he => by
  rcases r.sep a b La Lb ha hab hma hmb he with h1 | h1
  · exact not_inert hb h1
  · exact not_elder hb h1
theorem take_splice {cs : List Value} {cs' : List Value} {vs : List Value} {o : Nat} (h1 : o + vs.length ≤ cs.length) (h2 : cs.length ≤ cs'.length) :
    (splice cs' o vs).take cs.length = splice (cs'.take cs.length) o vs := by
  unfold splice
  apply List.ext_getElem?
  intro i
  by_cases hi : i < cs.length
  · simp only [List.getElem?_take, if_pos hi, List.getElem?_append, List.length_append, List.length_take, List.getElem?_drop]
    have e1 : min o cs'.length = o := by omega
    have e2 : min o (min cs.length cs'.length) = o := by omega
    simp only [e1, e2]
    by_cases g1 : i < o
    · simp [g1, show i < o + vs.length by omega]
    · by_cases g2 : i < o + vs.length
      · simp [g1, g2]
      · simp [g2, show o + vs.length + (i - (o + vs.length)) < cs.length by omega]
  · rw [List.getElem?_eq_none (by simp; omega), List.getElem?_eq_none (by simp; omega)]
theorem take_splice_low {cs' vs : List Value} {o k : Nat} (h1 : k ≤ o) (h2 : o ≤ cs'.length) : (splice cs' o vs).take k = cs'.take k := by
  unfold splice
  rw [List.append_assoc, List.take_append_of_le_length (by simp; omega), List.take_take, Nat.min_eq_left h1]
theorem length_splice {cs vs : List Value} {o : Nat} (h : o + vs.length ≤ cs.length) : (splice cs o vs).length = cs.length := by
  unfold splice; simp; omega
theorem writeAt_sound {P : Program} {m : Mp} {h h' : Hp} {w : World} (r : Rep P m h w) {b o : Nat} {vs vs' : List Value} (e : writeAt h b o vs = some h') (hv : VL m vs vs') {L : Loc} (hL : m b = some L) :
    ∃ w', (storeCells ⟨L.blk, o, none⟩ vs' 0).run P w = .ok () w' ∧ Rep P m h' w' ∧ Step m h w m h' w' := by
  unfold writeAt at e
  split at e
  · rename_i cs el base olds hg
    cases hd : (decide (o + vs.length ≤ cs.length) && vs.all isCell) with
    | false => rw [hd] at e; simp at e
    | true =>
      rw [hd] at e
      simp only [cond_true] at e
      simp only [Bool.and_eq_true, decide_eq_true_eq] at hd
      obtain ⟨L2, cs', n, k1, k2, k3, k4⟩ := r.rw b cs el base olds hg
      have : L2 = L := by rw [hL] at k1; exact (Option.some.inj k1).symm
      subst this
      obtain ⟨L3, cs3, fz, l1, l2, l3⟩ := r.row b cs el _ hg trivial
      have : L3 = L2 := by rw [hL] at l1; exact (Option.some.inj l1).symm
      subst this
      have : cs3 = cs' := by rw [k2] at l2; cases l2; rfl
      subst this
      have hvl := hv.length
      have hle : cs.length ≤ cs3.toList.length := by
        have := l3.length; simp at this; simp; omega
      have hcell : ∀ v ∈ vs', v.oneCell' = true := by
        intro v hv2
        obtain ⟨i, hi⟩ := List.mem_iff_getElem?.1 hv2
        have hi' : i < vs.length := by have := (List.getElem?_eq_some_iff.1 hi).1; omega
        obtain ⟨a', h1, h2⟩ := hv.getElem? i (List.getElem?_eq_getElem hi')
        rw [hi] at h1; cases h1
        have hc := (List.all_eq_true.1 hd.2) _ (List.getElem_mem hi')
        replace hc := h2.isCell hc
        cases v <;> simp [isCell] at hc <;> rfl
      have hrun := run_storeCells_at (P := P) L3.blk o el vs' 0 cs3 w k2 (by simp at hle; omega) hcell
      have hsp : (cs3.toList.take (o + 0) ++ vs' ++ cs3.toList.drop (o + 0 + vs'.length)) = splice cs3.toList o vs' := rfl
      rw [hsp] at hrun
      generalize hw' : w.setRow L3.blk (splice cs3.toList o vs').toArray = w' at hrun
      have hnew : w'.heap[L3.blk]? = some (.cells (splice cs3.toList o vs').toArray el (0, 0)) := by rw [← hw']; exact setRow_heap w _ _ _ _ _ k2
      have hoth : ∀ k, k ≠ L3.blk → w'.heap[k]? = w.heap[k]? := fun k hk => by rw [← hw']; exact setRow_other w _ _ k hk
      have hsz : w'.heap.size = w.heap.size := by rw [← hw']; exact setRow_size w _ _
      have hos : w'.os = w.os ∧ w'.tape = w.tape ∧ w'.output = w.output := by rw [← hw']; exact ⟨rfl, rfl, rfl⟩
      have hlb := live_row hg
      -- the shape of the new heap
      obtain ⟨base', olds', kl, hh', hkl⟩ : ∃ base' olds' kl, h' = (kill h kl).set b (.row (splice cs o vs) el (.rw base' olds')) ∧
          ((base ≤ o ∧ kl = [] ∧ base' = base ∧ olds' = olds) ∨ (kl = olds ∧ base' = 0 ∧ olds' = [])) := by
        cases hbo : decide (base ≤ o) with
        | true => rw [hbo] at e; simp at e; exact ⟨base, olds, [], e.symm, .inl ⟨of_decide_eq_true hbo, rfl, rfl, rfl⟩⟩
        | false => rw [hbo] at e; simp at e; exact ⟨0, [], olds, e.symm, .inr ⟨rfl, rfl, rfl⟩⟩
      have hget : ∀ x, x ≠ b → h'.get x = if x ∈ kl then deadOf (h.get x) else h.get x := fun x hx => by rw [hh', Hp.get_set, if_neg hx, kill_get]
      have hgetb : h'.get b = some (.row (splice cs o vs) el (.rw base' olds')) := by rw [hh', Hp.get_set, if_pos rfl]
      have hlive : ∀ x, live h' x → live h x := fun x hx => by
        by_cases hxb : x = b
        · subst hxb; exact hlb
        · unfold live at hx ⊢
          rw [hget x hxb] at hx
          split at hx
          · exact liveO_dead hx
          · exact hx
      have hinert : ∀ x, x ≠ b → inert h x → inert h' x := fun x hxb hx => by
        unfold inert at hx ⊢
        rw [hget x hxb]
        split
        · exact inertO_dead hx
        · exact hx
      -- a block beside b that shares its true block: it is dead behind the write, or lies below what is written
      have hside : ∀ x cs2 e2 st2, x ≠ b → h'.get x = some (.row cs2 e2 st2) → notDead st2 → ∀ L2, m x = some L2 → L2.blk = L3.blk → cs2.length ≤ o ∧ base ≤ o := by
        intro x cs2 e2 st2 hxb hgx hnd L2 hm2 he2
        rcases r.sep b x L3 L2 hlb (Ne.symm hxb) hL hm2 he2.symm with h1 | ⟨cs5, e5, base5, olds5, cs6, e6, h1, h2, h3, h4⟩
        · exfalso
          have := hinert x hxb h1
          unfold inert at this
          rw [hgx] at this
          cases st2 <;> simp [notDead, inertO] at *
        · rw [hg] at h1; cases h1
          rcases hkl with ⟨hbo, rfl, _, _⟩ | ⟨rfl, _, _⟩
          · rw [hget x hxb, if_neg (by simp), h3] at hgx
            cases hgx
            exact ⟨by omega, hbo⟩
          · exfalso
            rw [hget x hxb, if_pos h2, h3] at hgx
            simp [deadOf] at hgx
            obtain ⟨_, _, rfl⟩ := hgx
            exact hnd
      refine ⟨w', hrun, ⟨fun x Lx hx => by rw [hsz]; exact r.rng x Lx hx, fun x hx => ?_, fun x cs2 e2 st2 hgx hnd => ?_, fun x cs2 e2 b2 o2 hgx => ?_, fun x es ck hgx => ?_, fun x y Lx Ly hlx hxy hmx hmy he => ?_⟩,
        ⟨Mp.le_refl m, by rw [hh', Hp.next_set, kill_next]; exact Nat.le_refl _, by rw [hsz]; exact Nat.le_refl _, fun c hc hn => hoth c fun h0 => hn b L3 hlb hL h0.symm, fun x Lx hlx hmx hc => ⟨x, Lx, hlive x hlx, hmx, rfl⟩, fun x Lx hmx _ => ⟨x, Lx, hmx, rfl⟩, hos.1, hos.2.1, hos.2.2⟩⟩
      · rw [hh', Hp.next_set, kill_next] at hx
        have hxb : x ≠ b := fun h0 => by subst h0; have := (r.frs x hx).1; rw [hg] at this; cases this
        obtain ⟨h1, h2⟩ := r.frs x hx
        refine ⟨?_, h2⟩
        rw [hget x hxb, h1]; simp [deadOf]
      · by_cases hxb : x = b
        · subst hxb
          rw [hgetb] at hgx; cases hgx
          refine ⟨L3, _, _, hL, hnew, ?_⟩
          rw [length_splice (by omega), List.toList_toArray, take_splice (by omega) hle]
          exact l3.splice hv o
        · obtain ⟨st0, hg0, hnd0⟩ : ∃ st0, h.get x = some (.row cs2 e2 st0) ∧ notDead st0 := by
            rw [hget x hxb] at hgx
            split at hgx
            · cases hgx0 : h.get x with
              | none => rw [hgx0] at hgx; simp [deadOf] at hgx
              | some ob => cases ob with
                | row c0 e0 s0 => rw [hgx0] at hgx; simp [deadOf] at hgx; obtain ⟨_, _, rfl⟩ := hgx; exact absurd hnd (by simp [notDead])
                | map _ _ => rw [hgx0] at hgx; simp [deadOf] at hgx
            · exact ⟨st2, hgx, hnd⟩
          obtain ⟨L4, cs4, fz4, g1, g2, g3⟩ := r.row x cs2 e2 st0 hg0 hnd0
          by_cases hblk : L4.blk = L3.blk
          · obtain ⟨ho1, ho2⟩ := hside x cs2 e2 st2 hxb hgx hnd L4 g1 hblk
            rw [hblk, k2] at g2
            cases g2
            refine ⟨L4, (splice cs3.toList o vs').toArray, (0, 0), g1, by rw [hblk]; exact hnew, ?_⟩
            rw [List.toList_toArray, take_splice_low ho1 (by omega)]
            exact g3
          · exact ⟨L4, cs4, fz4, g1, by rw [hoth _ hblk]; exact g2, g3⟩
      · by_cases hxb : x = b
        · subst hxb
          rw [hgetb] at hgx; cases hgx
          refine ⟨L3, _, n, hL, hnew, k3, ?_⟩
          rw [length_splice (by omega), List.size_toArray, length_splice (by simp at hle; simp; omega)]
          simpa using k4
        · have hg0 : h.get x = some (.row cs2 e2 (.rw b2 o2)) := by
            rw [hget x hxb] at hgx
            split at hgx
            · cases hgx0 : h.get x with
              | none => rw [hgx0] at hgx; simp [deadOf] at hgx
              | some ob => cases ob with
                | row c0 e0 s0 => rw [hgx0] at hgx; simp [deadOf] at hgx
                | map _ _ => rw [hgx0] at hgx; simp [deadOf] at hgx
            · exact hgx
          obtain ⟨L4, cs4, n4, g1, g2, g3, g4⟩ := r.rw x cs2 e2 b2 o2 hg0
          have hblk := r.live_apart (live_row hg0) hlb g1 hL hxb
          exact ⟨L4, cs4, n4, g1, by rw [hoth _ hblk]; exact g2, g3, g4⟩
      · have hxb : x ≠ b := fun h0 => by subst h0; rw [hgetb] at hgx; cases hgx
        have hg0 : h.get x = some (.map es ck) := by
          rw [hget x hxb] at hgx
          split at hgx
          · cases hgx0 : h.get x with
            | none => rw [hgx0] at hgx; simp [deadOf] at hgx
            | some ob => cases ob with
              | row c0 e0 s0 => rw [hgx0] at hgx; simp [deadOf] at hgx
              | map _ _ => rw [hgx0] at hgx; simpa [deadOf] using hgx
          · exact hgx
        obtain ⟨L4, es4, g1, g2, g3⟩ := r.map x es ck hg0
        have hblk := r.live_apart (live_map hg0) hlb g1 hL hxb
        exact ⟨L4, es4, g1, by rw [hoth _ hblk]; exact g2, g3⟩
      · rcases r.sep x y Lx Ly (hlive x hlx) hxy hmx hmy he with h1 | ⟨cs5, e5, base5, olds5, cs6, e6, h1, h2, h3, h4⟩
        · left
          exact hinert y (fun h0 => by subst h0; exact not_inert hlb h1) h1
        · have hyb : y ≠ b := fun h0 => by subst h0; rw [hg] at h3; cases h3
          by_cases hyk : y ∈ kl
          · left
            unfold inert; rw [hget y hyb, if_pos hyk, h3]; simp [deadOf, inertO]
          · right
            have hy : h'.get y = some (.row cs6 e6 .ro) := by rw [hget y hyb, if_neg hyk]; exact h3
            by_cases hxb : x = b
            · subst hxb
              rw [hg] at h1; cases h1
              rcases hkl with ⟨hbo, rfl, rfl, rfl⟩ | ⟨rfl, rfl, rfl⟩
              · exact ⟨_, _, _, _, cs6, e6, hgetb, h2, hy, h4⟩
              · exact absurd h2 hyk
            · have hx : h'.get x = some (.row cs5 e5 (.rw base5 olds5)) := by
                rw [hget x hxb]
                split
                · rename_i hxk
                  exfalso
                  unfold live at hlx
                  rw [hget x hxb, if_pos hxk, h1] at hlx
                  simp [deadOf, liveO] at hlx
                · exact h1
              exact ⟨_, _, _, _, cs6, e6, hx, h2, hy, h4⟩
  · cases e
end Go.Ev
namespace Go.Ev
open Go
set_option linter.unusedSimpArgs false
set_option linter.unusedVariables false
theorem evStore_sound {P : Program} {m : Mp} {h h' : Hp} {w : World} (r : Rep P m h w) {t : TypeId} {a a' v v' : Value} (e : evStore P t a v h = some h') (ha : VRel m a a') (hv : VRel m v v') :
    ∃ w', (Instr.storeAt t a' v').run P w = .ok () w' ∧ Rep P m h' w' ∧ Step m h w m h' w' := by
  unfold evStore at e
  split at e
  · rename_i b o
    cases hs : (tSize P t == some v.cells.size) with
    | false => rw [hs] at e; simp at e
    | true =>
      rw [hs] at e; simp only [cond_true] at e
      simp only [beq_iff_eq] at hs
      cases ha with
      | ptr hL =>
        have hbx : boxable v = true := boxable_of (writeAt_cells e)
        obtain ⟨w', h1, h2, h3⟩ := writeAt_sound r e (hv.cells hbx) hL
        refine ⟨w', ?_, h2, h3⟩
        simp [Instr.storeAt, Instr.sureAddr, storeVar, run_sizeOf hs, hv.cells_size hbx, h1]
  · cases e
theorem Rep.setMap {P : Program} {m : Mp} {h : Hp} {w : World} (r : Rep P m h w) {b : Nat} {es es2 : List MapEntry} {ck ck2 : Nat} (hg : h.get b = some (.map es ck)) {L : Loc} (hL : m b = some L) {es2' : Array MapEntry} (he : EL m es2 es2'.toList) :
    Rep P m (h.set b (.map es2 ck2)) { w with heap := w.heap.setIfInBounds L.blk (.map es2' ck2) } ∧ Step m h w m (h.set b (.map es2 ck2)) { w with heap := w.heap.setIfInBounds L.blk (.map es2' ck2) } := by
  obtain ⟨L2, es', k1, k2, k3⟩ := r.map b es ck hg
  have : L2 = L := by rw [hL] at k1; exact (Option.some.inj k1).symm
  subst this
  have hlt := r.rng b L2 hL
  have hlb := live_map hg
  have hnew : (w.heap.setIfInBounds L2.blk (.map es2' ck2))[L2.blk]? = some (.map es2' ck2) := by simp [hlt]
  have hoth : ∀ k, k ≠ L2.blk → (w.heap.setIfInBounds L2.blk (.map es2' ck2))[k]? = w.heap[k]? := fun k hk => by rw [Array.getElem?_setIfInBounds_ne (by omega)]
  have hget : ∀ x, x ≠ b → (h.set b (.map es2 ck2)).get x = h.get x := fun x hx => by rw [Hp.get_set, if_neg hx]
  have hgetb : (h.set b (.map es2 ck2)).get b = some (.map es2 ck2) := by rw [Hp.get_set, if_pos rfl]
  have hlive : ∀ x, live (h.set b (.map es2 ck2)) x → live h x := fun x hx => by
    by_cases hxb : x = b
    · subst hxb; exact hlb
    · unfold live at *; rw [hget x hxb] at hx; exact hx
  refine ⟨⟨fun x Lx hx => by simpa using r.rng x Lx hx, fun x hx => ?_, fun x cs2 e2 st2 hgx hnd => ?_, fun x cs2 e2 b2 o2 hgx => ?_, fun x es3 ck3 hgx => ?_, fun x y Lx Ly hlx hxy hmx hmy hee => ?_⟩,
    ⟨Mp.le_refl m, Nat.le_refl _, by simp, fun c hc hn => hoth c fun h0 => hn b L2 hlb hL h0.symm, fun x Lx hlx hmx hc => ⟨x, Lx, hlive x hlx, hmx, rfl⟩, fun x Lx hmx _ => ⟨x, Lx, hmx, rfl⟩, rfl, rfl, rfl⟩⟩
  · rw [Hp.next_set] at hx
    have hxb : x ≠ b := fun h0 => by subst h0; have := (r.frs x hx).1; rw [hg] at this; cases this
    rw [hget x hxb]; exact r.frs x hx
  · have hxb : x ≠ b := fun h0 => by subst h0; rw [hgetb] at hgx; cases hgx
    rw [hget x hxb] at hgx
    obtain ⟨L4, cs4, fz4, g1, g2, g3⟩ := r.row x cs2 e2 st2 hgx hnd
    have hblk : L4.blk ≠ L2.blk := fun h0 => by rw [h0, k2] at g2; cases g2
    exact ⟨L4, cs4, fz4, g1, by rw [hoth _ hblk]; exact g2, g3⟩
  · have hxb : x ≠ b := fun h0 => by subst h0; rw [hgetb] at hgx; cases hgx
    rw [hget x hxb] at hgx
    obtain ⟨L4, cs4, n4, g1, g2, g3, g4⟩ := r.rw x cs2 e2 b2 o2 hgx
    have hblk : L4.blk ≠ L2.blk := fun h0 => by rw [h0, k2] at g2; cases g2
    exact ⟨L4, cs4, n4, g1, by rw [hoth _ hblk]; exact g2, g3, g4⟩
  · by_cases hxb : x = b
    · subst hxb
      rw [hgetb] at hgx; cases hgx
      exact ⟨L2, es2', hL, hnew, he⟩
    · rw [hget x hxb] at hgx
      obtain ⟨L4, es4, g1, g2, g3⟩ := r.map x es3 ck3 hgx
      have hblk := r.live_apart (live_map hgx) hlb g1 hL hxb
      exact ⟨L4, es4, g1, by rw [hoth _ hblk]; exact g2, g3⟩
  · rcases r.sep x y Lx Ly (hlive x hlx) hxy hmx hmy hee with h1 | ⟨cs5, e5, base5, olds5, cs6, e6, h1, h2, h3, h4⟩
    · have hyb : y ≠ b := fun h0 => by subst h0; exact not_inert hlb h1
      left; unfold inert at *; rw [hget y hyb]; exact h1
    · have hyb : y ≠ b := fun h0 => by subst h0; rw [hg] at h3; cases h3
      have hxb : x ≠ b := fun h0 => by subst h0; rw [hg] at h1; cases h1
      exact .inr ⟨_, _, _, _, cs6, e6, by rw [hget x hxb]; exact h1, h2, by rw [hget y hyb]; exact h3, h4⟩
theorem modify_toList {es : Array MapEntry} {i : Nat} {e : MapEntry} (h : es[i]? = some e) (f : MapEntry → MapEntry) : (es.modify i f).toList = es.toList.set i (f e) := by
  apply List.ext_getElem?
  intro j
  rw [Array.getElem?_toList, Array.getElem?_modify, List.getElem?_set]
  have hi := (Array.getElem?_eq_some_iff.1 h).1
  by_cases hij : i = j
  · subst hij
    have he := (Array.getElem?_eq_some_iff.1 h).2
    simp [hi, he]
  · simp [hij]
theorem run_getObj_map {P : Program} {w : World} {b : Nat} {es : Array MapEntry} {ck : Nat} (h : w.heap[b]? = some (.map es ck)) : (getObj b).run P w = .ok (.map es ck) w := by
  simp [getObj, Sem.run, h]
theorem run_setObj_map {P : Program} {w : World} {b : Nat} {es : Array MapEntry} {ck : Nat} (h : w.heap[b]? = some (.map es ck)) (o : Obj) : (setObj b o).run P w = .ok () { w with heap := w.heap.setIfInBounds b o } := by
  simp [setObj, Sem.run, h]
theorem evMapUpdate_sound {P : Program} {m : Mp} {h h' : Hp} {w : World} (r : Rep P m h w) {t : TypeId} {x x' k k' v v' : Value} (e : evMapUpdate P t x k v h = some h') (hx : VRel m x x') (hk : VRel m k k') (hv : VRel m v v') :
    ∃ w', (Instr.mapUpdate t x' k' v').run P w = .ok () w' ∧ Rep P m h' w' ∧ Step m h w m h' w' := by
  unfold evMapUpdate at e
  split at e
  · rename_i kt et b ht
    split at e
    · rename_i es ck hg
      cases hf : flat k with
      | false => rw [hf] at e; simp at e
      | true =>
        rw [hf] at e
        simp only [Bool.not_true, cond_false, Option.bind_eq_some_iff] at e
        obtain ⟨res, hres, e⟩ := e
        rw [hk.flat_eq hf]
        cases hx with
        | mp hL =>
          rename_i L
          obtain ⟨L2, es', k1, k2, k3⟩ := r.map b es ck hg
          have : L2 = L := by rw [hL] at k1; exact (Option.some.inj k1).symm
          subst this
          obtain ⟨hck, r', hr1, hr2⟩ := look_rel k3 hres
          cases hr2 with
          | none =>
            simp only [Option.some.injEq] at e; subst e
            have hs := r.setMap hg hL (es2 := es ++ [{ key := k, val := v, born := ck }]) (ck2 := ck + 1) (es2' := es'.push { key := k, val := v', born := ck }) (by
              simp only [Array.toList_push]
              exact k3.append (.cons rfl hf hv rfl .nil))
            refine ⟨_, ?_, hs⟩
            simp [Instr.mapUpdate, run_underlying (tMap_spec ht), run_getObj_map k2, hck, hr1, run_setObj_map k2]
          | some hvv =>
            rename_i i u u'
            simp only at e
            split at e
            · rename_i en hen
              cases hsb : Instr.sameBits 10000 en.key k with
              | false => rw [hsb] at e; simp at e
              | true =>
                rw [hsb] at e; simp only [cond_true, Option.some.injEq] at e; subst e
                obtain ⟨en', g1, g2, g3, g4, g5⟩ := k3.getElem? i hen
                have g1' : es'[i]? = some en' := by simpa using g1
                have hs := r.setMap hg hL (es2 := es.set i { en with key := k, val := v }) (ck2 := ck) (es2' := es'.modify i fun e => { e with key := k, val := v' }) (by
                  rw [modify_toList g1']
                  exact k3.set hf hv i hen g1)
                refine ⟨_, ?_, hs⟩
                simp [Instr.mapUpdate, run_underlying (tMap_spec ht), run_getObj_map k2, hck, hr1, run_setObj_map k2, g1', g2, Instr.keyThatStays, hsb]
            · cases e
    · cases e
  · cases e
theorem evDelete_sound {P : Program} {m : Mp} {h h' : Hp} {w : World} (r : Rep P m h w) {t : TypeId} {x x' k k' : Value} (e : evDelete P t x k h = some h') (hx : VRel m x x') (hk : VRel m k k') (ts : Array TypeId) (hts : ts[0]? = some t) (ty : TypeId) :
    ∃ w', (Builtin.delete_ ts ty #[x', k']).run P w = .ok (.tuple #[]) w' ∧ Rep P m h' w' ∧ Step m h w m h' w' := by
  unfold evDelete at e
  split at e
  · rename_i kt et b ht
    split at e
    · rename_i es ck hg
      cases hf : flat k with
      | false => rw [hf] at e; simp at e
      | true =>
        rw [hf] at e
        simp only [Bool.not_true, cond_false, Option.bind_eq_some_iff] at e
        obtain ⟨res, hres, e⟩ := e
        rw [hk.flat_eq hf]
        cases hx with
        | mp hL =>
          rename_i L
          obtain ⟨L2, es', k1, k2, k3⟩ := r.map b es ck hg
          have : L2 = L := by rw [hL] at k1; exact (Option.some.inj k1).symm
          subst this
          obtain ⟨hck, r', hr1, hr2⟩ := look_rel k3 hres
          have hem := k3.isEmpty
          cases hr2 with
          | none =>
            simp only [Option.some.injEq] at e; subst e
            refine ⟨{ w with heap := w.heap.setIfInBounds L2.blk (.map es' ck) }, ?_, ?_⟩
            · simp [Builtin.delete_, hts, run_underlying (tMap_spec ht), run_getObj_map k2, hem, hck, hr1, run_setObj_map k2]
            · have : w.heap.setIfInBounds L2.blk (.map es' ck) = w.heap := by
                apply Array.ext_getElem?
                intro i
                by_cases hi : i = L2.blk
                · subst hi; simp [r.rng b L2 hL]; exact (Array.getElem?_eq_some_iff.1 k2).2.symm
                · rw [Array.getElem?_setIfInBounds_ne (by omega)]
              rw [this]
              exact ⟨r, Step.refl _ _ _⟩
          | some hvv =>
            rename_i i u u'
            simp only [Option.some.injEq] at e; subst e
            have hs := r.setMap hg hL (es2 := es.eraseIdx i) (ck2 := ck) (es2' := es'.eraseIdxIfInBounds i) (by
              have : (es'.eraseIdxIfInBounds i).toList = es'.toList.eraseIdx i := by
                unfold Array.eraseIdxIfInBounds
                split
                · simp
                · rename_i hi
                  rw [List.eraseIdx_of_length_le (by simpa using hi)]
              rw [this]
              exact k3.eraseIdx i)
            refine ⟨_, ?_, hs⟩
            simp [Builtin.delete_, hts, run_underlying (tMap_spec ht), run_getObj_map k2, hem, hck, hr1, run_setObj_map k2]
    · cases e
  · cases e
theorem nextslicecap_le' (need old : Nat) (h : old < need) : Builtin.nextslicecap need old ≤ 2 * need := Go.nextslicecap_le h
theorem lenOf_sound {P : Program} {m : Mp} {v v' : Value} {k : Nat} (e : lenOf v = some k) (hv : VRel m v v') : ∀ w, (Builtin.lenOf v').run P w = .ok k w := by
  cases hv <;> simp [lenOf] at e <;> subst e <;> intro w <;> simp [Builtin.lenOf]
structure AppT (P : Program) (ts : Array TypeId) (t u el n : Nat) (ud : TypeDesc) (ti : TypeInfo) (z : Value) : Prop where
  ht : ts[0]? = some t
  hu : ts[1]? = some u
  hel : P.underlying t = some (.slice el)
  hud : P.underlying u = some ud
  hni : (∃ e, ud = .slice e) ∨ ud = .string
  hn : tSize P el = some n
  hti : P.info? el = some ti
  hz : tZero P el = some z
section
variable {P : Program} {ts : Array TypeId} {t u el n : Nat} {ud : TypeDesc} {ti : TypeInfo} {z : Value}
theorem run_append_in (T : AppT P ts t u el n ud ti z) (ty : TypeId) {a : Option Addr} {len cap k : Nat} {x : Value} {new : Array Value} {w w' : World}
    (hk : (Builtin.lenOf x).run P w = .ok k w) (hroom : len + k ≤ cap) (hnew : (Builtin.firstCells n k x).run P w = .ok new w)
    (hst : (match a with | some a => (storeCells (a.add (len * n)) new.toList).run P w | none => .ok () w) = .ok () w') :
    (Builtin.append_ ts ty #[.slice a len cap, x]).run P w = .ok (.slice a (len + k) cap) w' := by
  have e := T.hud
  rcases T.hni with ⟨e', rfl⟩ | rfl
  all_goals cases a with
    | none => simp at hst; subst hst; simp [Builtin.append_, T.ht, T.hu, run_underlying T.hel, run_sizeOf T.hn, run_underlying e, hk, hroom, hnew]
    | some a => simp at hst; simp [Builtin.append_, T.ht, T.hu, run_underlying T.hel, run_sizeOf T.hn, run_underlying e, hk, hroom, hnew, hst]
theorem run_append_new (T : AppT P ts t u el n ud ti z) (ty : TypeId) {a : Option Addr} {len cap k : Nat} {x : Value} {old new : Array Value} {w : World}
    (hk : (Builtin.lenOf x).run P w = .ok k w) (hroom : cap < len + k) (hbig : (2 * (len + k) + 1024) * (ti.bytes + 1) ≤ 2 ^ 47)
    (hold : (Builtin.firstCells n len (.slice a len cap)).run P { w with drawn := w.drawn + 1 } = .ok old { w with drawn := w.drawn + 1 })
    (hnew : (Builtin.firstCells n k x).run P { w with drawn := w.drawn + 1 } = .ok new { w with drawn := w.drawn + 1 }) :
    ∃ nc, len + k ≤ nc ∧ (Builtin.append_ ts ty #[.slice a len cap, x]).run P w =
      .ok (.slice (some ⟨w.heap.size, 0, none⟩) (len + k) nc) { w with drawn := w.drawn + 1, heap := w.heap.push (.cells (old ++ new ++ Builtin.zeroCells z.cells (nc - (len + k))) el (0, 0)) } := by
  have hbig2 : (2 * (len + k) + 1024) * ti.bytes ≤ 2 ^ 47 := Nat.le_trans (Nat.mul_le_mul_left _ (Nat.le_succ _)) hbig
  have hbig1 : (2 * (len + k) + 1024) * 1 ≤ 2 ^ 47 := Nat.le_trans (Nat.mul_le_mul_left _ (by omega)) hbig
  have hns2 : Builtin.nextslicecap (len + k) cap * ti.bytes ≤ 2 ^ 47 := Nat.le_trans (Nat.mul_le_mul_right _ (by have := nextslicecap_le' (len + k) cap hroom; omega)) hbig2
  have t1 : ¬ len + k ≤ cap := by omega
  have t2 : ¬ 281474976710656 < Builtin.nextslicecap (len + k) cap * ti.bytes := by omega
  have t3 : ¬ (9223372036854775807 : Int) < (len : Int) + (k : Int) := by omega
  refine ⟨(Question.appendCap (len + k) cap el).cut (w.tape w.drawn (.appendCap (len + k) cap el)), by simp [Question.cut], ?_⟩
  have hold' := hold
  have hnew' := hnew
  simp only [World.drew_eq] at hold' hnew' ⊢
  have e := T.hud
  rcases T.hni with ⟨e', rfl⟩ | rfl
  all_goals simp [Builtin.append_, T.ht, T.hu, run_underlying T.hel, run_sizeOf T.hn, run_underlying e, hk, t1, t2, t3, run_typeInfo T.hti, IntKind.max, IntKind.signed, IntKind.bits, Question.forced, hold', hnew', run_zeroValue T.hz, newRow]
  all_goals rfl
end
theorem evCells_size {size n : Nat} {v : Value} {h : Hp} {cs : List Value} (e : evCells size n v h = some cs) (hs : ∀ s, v = .string s → size = 1 ∧ n ≤ s.size) (hn : ∀ l c, v = .slice none l c → n = 0) : cs.length = n * size := by
  unfold evCells at e
  split at e
  · rename_i l c
    simp at e; subst e
    rw [hn _ _ rfl]; simp
  · rename_i b o l c
    cases hz : n * size == 0 with
    | true => have := beq_iff_eq.1 hz; rw [hz] at e; simp at e; subst e; rw [this]; rfl
    | false =>
      rw [hz] at e; simp only [cond_false, Option.bind_eq_some_iff] at e
      obtain ⟨xs, hx, e⟩ := e
      cases hd : decide (o + n * size ≤ xs.length) with
      | false => rw [hd] at e; simp at e
      | true =>
        rw [hd] at e; simp at e hd; subst e
        simp; omega
  · rename_i s
    simp only [Option.some.injEq] at e; subst e
    obtain ⟨h1, h2⟩ := hs s rfl
    subst h1
    simp [ByteArray.size_data]
    omega
  · cases e
theorem Rep.grow {P : Program} {m : Mp} {h : Hp} {w : World} (r : Rep P m h w) {b : Nat} {cs : List Value} {el : TypeId} {bs : Nat} {olds : List Nat} (hg : h.get b = some (.row cs el (.rw bs olds))) (hbs : bs ≤ cs.length)
    {L : Loc} (hL : m b = some L) {new new' : List Value} (hv : VL m new new') (hcell : new.all isCell = true) {n k : Nat} (hn : tSize P el = some n) (hnk : new.length = k * n) (hk : k ≤ L.extra) :
    ∃ w', (storeCells ⟨L.blk, cs.length, none⟩ new' 0).run P w = .ok () w' ∧
      Rep P (m.upd h.next ⟨L.blk, L.extra - k⟩) ((h.set b (.row cs el .ro)).push (.row (cs ++ new) el (.rw cs.length (b :: olds)))) w' ∧
      Step m h w (m.upd h.next ⟨L.blk, L.extra - k⟩) ((h.set b (.row cs el .ro)).push (.row (cs ++ new) el (.rw cs.length (b :: olds)))) w' := by
  obtain ⟨L2, cs', n2, k1, k2, k3, k4⟩ := r.rw b cs el bs olds hg
  have : L2 = L := by rw [hL] at k1; exact (Option.some.inj k1).symm
  subst this
  obtain ⟨L3, cs3, fz, l1, l2, l3⟩ := r.row b cs el _ hg trivial
  have : L3 = L2 := by rw [hL] at l1; exact (Option.some.inj l1).symm
  subst this
  have : cs3 = cs' := by rw [k2] at l2; cases l2; rfl
  subst this
  have hvl := hv.length
  have hsize : cs3.size = cs.length + L3.extra * n := by
    rcases k3 with h1 | h1
    · rw [hn] at h1; cases h1; exact k4
    · rw [h1] at k4 ⊢; simpa using k4
  have hkn : k * n ≤ L3.extra * n := Nat.mul_le_mul_right _ hk
  have hroom : cs.length + new'.length ≤ cs3.size := by omega
  have hcell' : ∀ v ∈ new', v.oneCell' = true := by
    intro v hv2
    obtain ⟨i, hi⟩ := List.mem_iff_getElem?.1 hv2
    have hi' : i < new.length := by have := (List.getElem?_eq_some_iff.1 hi).1; omega
    obtain ⟨a', h1, h2⟩ := hv.getElem? i (List.getElem?_eq_getElem hi')
    rw [hi] at h1; cases h1
    have hc := (List.all_eq_true.1 hcell) _ (List.getElem_mem hi')
    replace hc := h2.isCell hc
    cases v <;> simp [isCell] at hc <;> rfl
  have hrun := run_storeCells_at (P := P) L3.blk cs.length el new' 0 cs3 w k2 (by omega) hcell'
  have hsp : (cs3.toList.take (cs.length + 0) ++ new' ++ cs3.toList.drop (cs.length + 0 + new'.length)) = splice cs3.toList cs.length new' := rfl
  rw [hsp] at hrun
  generalize hw' : w.setRow L3.blk (splice cs3.toList cs.length new').toArray = w' at hrun
  have hnew : w'.heap[L3.blk]? = some (.cells (splice cs3.toList cs.length new').toArray el (0, 0)) := by rw [← hw']; exact setRow_heap w _ _ _ _ _ k2
  have hoth : ∀ k, k ≠ L3.blk → w'.heap[k]? = w.heap[k]? := fun k hk => by rw [← hw']; exact setRow_other w _ _ k hk
  have hsz : w'.heap.size = w.heap.size := by rw [← hw']; exact setRow_size w _ _
  have hos : w'.os = w.os ∧ w'.tape = w.tape ∧ w'.output = w.output := by rw [← hw']; exact ⟨rfl, rfl, rfl⟩
  have hlb := live_row hg
  have hnn := r.frs h.next (Nat.le_refl _)
  have hbn : b < h.next := by
    rcases Nat.lt_or_ge b h.next with h1 | h1
    · exact h1
    · have := (r.frs b h1).1; rw [hg] at this; cases this
  generalize hh' : (h.set b (.row cs el .ro)).push (.row (cs ++ new) el (.rw cs.length (b :: olds))) = h'
  have hget : ∀ x, h'.get x = if x = h.next then some (.row (cs ++ new) el (.rw cs.length (b :: olds))) else if x = b then some (.row cs el .ro) else h.get x := fun x => by
    rw [← hh', Hp.get_push, Hp.next_set, Hp.get_set]
  have hnext : h'.next = h.next + 1 := by rw [← hh']; rfl
  have hle : m.le (m.upd h.next ⟨L3.blk, L3.extra - k⟩) := Mp.le_upd hnn.2
  have hupd : ∀ x, x ≠ h.next → (m.upd h.next ⟨L3.blk, L3.extra - k⟩) x = m x := fun x hx => by simp [Mp.upd, hx]
  have hlive : ∀ x, live h' x → x ≠ h.next → live h x ∧ x ≠ b := fun x hx hxn => by
    unfold live at hx
    rw [hget x, if_neg hxn] at hx
    by_cases hxb : x = b
    · subst hxb; simp [liveO] at hx
    · rw [if_neg hxb] at hx; exact ⟨hx, hxb⟩
  have hside : ∀ x Lx cs2 e2 st2, x ≠ b → h.get x = some (.row cs2 e2 st2) → notDead st2 → m x = some Lx → Lx.blk = L3.blk → cs2.length ≤ cs.length := by
    intro x Lx cs2 e2 st2 hxb hgx hnd hm2 he2
    rcases r.sep b x L3 Lx hlb (Ne.symm hxb) hL hm2 he2.symm with h1 | ⟨cs5, e5, base5, olds5, cs6, e6, h1, h2, h3, h4⟩
    · exfalso
      unfold inert at h1; rw [hgx] at h1
      cases st2 <;> simp [notDead, inertO] at *
    · rw [hg] at h1; cases h1
      rw [hgx] at h3; cases h3
      omega
  have hcsl : cs.length ≤ cs3.toList.length := by simp; omega
  refine ⟨w', hrun, ⟨fun x Lx hx => ?_, fun x hx => ?_, fun x cs2 e2 st2 hgx hnd => ?_, fun x cs2 e2 b2 o2 hgx => ?_, fun x es ck hgx => ?_, fun x y Lx Ly hlx hxy hmx hmy he => ?_⟩,
    ⟨hle, by rw [hnext]; omega, by rw [hsz]; exact Nat.le_refl _, fun c hc hn => hoth c fun h0 => hn b L3 hlb hL h0.symm, fun x Lx hlx hmx hc => ?_, fun x Lx hmx hc => ?_, hos.1, hos.2.1, hos.2.2⟩⟩
  · rw [hsz]
    unfold Mp.upd at hx
    split at hx
    · cases hx; exact r.rng b L3 hL
    · exact r.rng x Lx hx
  · rw [hnext] at hx
    have h1 := r.frs x (by omega)
    rw [hget, if_neg (by omega), if_neg (by omega), hupd x (by omega)]
    exact h1
  · rw [hget] at hgx
    by_cases hxn : x = h.next
    · rw [if_pos hxn] at hgx; cases hgx
      subst hxn
      refine ⟨_, _, _, Mp.upd_self _ _ _, hnew, ?_⟩
      rw [List.toList_toArray, List.length_append, hvl]
      have : (splice cs3.toList cs.length new').take (cs.length + new'.length) = cs3.toList.take cs.length ++ new' := by
        unfold splice
        rw [List.take_append_of_le_length (by simp; omega), List.take_of_length_le (by simp; omega)]
      rw [this]
      exact (l3.append hv).mono hle
    · rw [if_neg hxn] at hgx
      by_cases hxb : x = b
      · rw [if_pos hxb] at hgx; cases hgx
        subst hxb
        refine ⟨L3, _, _, by rw [hupd x hxn]; exact hL, hnew, ?_⟩
        rw [List.toList_toArray, take_splice_low (Nat.le_refl _) (by omega)]
        exact l3.mono hle
      · rw [if_neg hxb] at hgx
        obtain ⟨L4, cs4, fz4, g1, g2, g3⟩ := r.row x cs2 e2 st2 hgx hnd
        by_cases hblk : L4.blk = L3.blk
        · have ho := hside x L4 cs2 e2 st2 hxb hgx hnd g1 hblk
          rw [hblk, k2] at g2
          cases g2
          refine ⟨L4, _, _, by rw [hupd x hxn]; exact g1, by rw [hblk]; exact hnew, ?_⟩
          rw [List.toList_toArray, take_splice_low ho (by omega)]
          exact g3.mono hle
        · exact ⟨L4, cs4, fz4, by rw [hupd x hxn]; exact g1, by rw [hoth _ hblk]; exact g2, g3.mono hle⟩
  · rw [hget] at hgx
    by_cases hxn : x = h.next
    · rw [if_pos hxn] at hgx; cases hgx
      subst hxn
      refine ⟨_, _, n, Mp.upd_self _ _ _, hnew, .inl hn, ?_⟩
      rw [List.size_toArray, length_splice (by simp; omega), List.length_append, hnk]
      simp only [Array.length_toList, hsize]
      have : L3.extra * n = k * n + (L3.extra - k) * n := by rw [← Nat.add_mul]; congr 1; omega
      omega
    · rw [if_neg hxn] at hgx
      by_cases hxb : x = b
      · rw [if_pos hxb] at hgx; cases hgx
      · rw [if_neg hxb] at hgx
        obtain ⟨L4, cs4, n4, g1, g2, g3, g4⟩ := r.rw x cs2 e2 b2 o2 hgx
        have hblk := r.live_apart (live_row hgx) hlb g1 hL hxb
        exact ⟨L4, cs4, n4, by rw [hupd x hxn]; exact g1, by rw [hoth _ hblk]; exact g2, g3, g4⟩
  · rw [hget] at hgx
    by_cases hxn : x = h.next
    · rw [if_pos hxn] at hgx; cases hgx
    · rw [if_neg hxn] at hgx
      by_cases hxb : x = b
      · rw [if_pos hxb] at hgx; cases hgx
      · rw [if_neg hxb] at hgx
        obtain ⟨L4, es4, g1, g2, g3⟩ := r.map x es ck hgx
        have hblk := r.live_apart (live_map hgx) hlb g1 hL hxb
        exact ⟨L4, es4, by rw [hupd x hxn]; exact g1, by rw [hoth _ hblk]; exact g2, g3.mono hle⟩
  · by_cases hxn : x = h.next
    · subst hxn
      rw [Mp.upd_self] at hmx; cases hmx
      have hyn : y ≠ h.next := Ne.symm hxy
      rw [hupd y hyn] at hmy
      by_cases hyb : y = b
      · subst hyb
        right
        exact ⟨_, _, _, _, cs, el, by rw [hget, if_pos rfl], by simp, by rw [hget, if_neg hyn, if_pos rfl], Nat.le_refl _⟩
      · rcases r.sep b y L3 Ly hlb (Ne.symm hyb) hL hmy he with h1 | ⟨cs5, e5, base5, olds5, cs6, e6, h1, h2, h3, h4⟩
        · left; unfold inert at *; rw [hget, if_neg hyn, if_neg hyb]; exact h1
        · rw [hg] at h1; cases h1
          right
          exact ⟨_, _, _, _, cs6, e6, by rw [hget, if_pos rfl], by simp [h2], by rw [hget, if_neg hyn, if_neg hyb]; exact h3, by omega⟩
    · obtain ⟨hlx', hxb⟩ := hlive x hlx hxn
      rw [hupd x hxn] at hmx
      by_cases hyn : y = h.next
      · subst hyn
        rw [Mp.upd_self] at hmy; cases hmy
        exfalso
        exact r.live_apart hlx' hlb hmx hL hxb he
      · rw [hupd y hyn] at hmy
        rcases r.sep x y Lx Ly hlx' hxy hmx hmy he with h1 | ⟨cs5, e5, base5, olds5, cs6, e6, h1, h2, h3, h4⟩
        · have hyb : y ≠ b := fun h0 => by subst h0; exact not_inert hlb h1
          left; unfold inert at *; rw [hget, if_neg hyn, if_neg hyb]; exact h1
        · have hyb : y ≠ b := fun h0 => by subst h0; rw [hg] at h3; cases h3
          right
          exact ⟨_, _, _, _, cs6, e6, by rw [hget, if_neg hxn, if_neg hxb]; exact h1, h2, by rw [hget, if_neg hyn, if_neg hyb]; exact h3, h4⟩
  · by_cases hxn : x = h.next
    · subst hxn
      rw [Mp.upd_self] at hmx; cases hmx
      exact ⟨b, L3, hlb, hL, rfl⟩
    · rw [hupd x hxn] at hmx
      exact ⟨x, Lx, (hlive x hlx hxn).1, hmx, rfl⟩
  · by_cases hxn : x = h.next
    · subst hxn
      rw [Mp.upd_self] at hmx; cases hmx
      exact ⟨b, L3, hL, rfl⟩
    · rw [hupd x hxn] at hmx
      exact ⟨x, Lx, hmx, rfl⟩
end Go.Ev
