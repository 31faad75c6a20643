/- Ev: the rules of single operations, with what is looked up of a type already found. -/
import Derived.Test.YtncmgiddcefpcaaDoorEvX
namespace Go.Ev
open Go
set_option linter.unusedSimpArgs false
set_option linter.unusedVariables false
variable {C : Ctx}

/-! ### rows -/
def rowOb : Option Ob → Option (List Value)
  | some (.row _ _ .dead) => none
  | some (.row cs _ _) => some cs
  | _ => none
theorem rowOf_def (h : Hp) (b : Nat) : rowOf h b = rowOb (h.get b) := rfl
theorem rowOb_rw {cs : List Value} {e : TypeId} {x : Nat} {l : List Nat} : rowOb (some (.row cs e (.rw x l))) = some cs := rfl
theorem rowOb_ro {cs : List Value} {e : TypeId} : rowOb (some (.row cs e .ro)) = some cs := rfl
theorem row_push_eq {h : Hp} {o : Ob} {c : Nat} (e : c = h.next) : rowOf (h.push o) c = rowOb (some o) := by rw [rowOf_def, Hp.get_push, if_pos e]
theorem row_push_ne {h : Hp} {o : Ob} {c : Nat} (e : c ≠ h.next) : rowOf (h.push o) c = rowOf h c := by rw [rowOf_def, Hp.get_push, if_neg e]; rfl
theorem row_set_eq {h : Hp} {o : Ob} {b c : Nat} (e : c = b) : rowOf (h.set b o) c = rowOb (some o) := by rw [rowOf_def, Hp.get_set, if_pos e]
theorem row_set_ne {h : Hp} {o : Ob} {b c : Nat} (e : c ≠ b) : rowOf (h.set b o) c = rowOf h c := by rw [rowOf_def, Hp.get_set, if_neg e]; rfl
theorem get_push_eq {h : Hp} {o : Ob} {c : Nat} (e : c = h.next) : (h.push o).get c = some o := by rw [Hp.get_push, if_pos e]
theorem get_set_eq {h : Hp} {o : Ob} {b c : Nat} (e : c = b) : (h.set b o).get c = some o := by rw [Hp.get_set, if_pos e]
theorem Keep.row {h h' : Hp} (k : Keep h h') {b : Nat} (hb : b < h.next) : rowOf h' b = rowOf h b := rowOf_eq (k.2 b hb)

/-! ### a load -/
def cellAt (o : Nat) (cs : List Value) : Option Value := cs[o]?
def aggAt (o n : Nat) (cs : List Value) : Option Value := bif decide (o + n ≤ cs.length) then some (.agg ((cs.drop o).take n).toArray) else none
theorem L_loadC {t : TypeId} (ht : tAgg C.P t = some false) : ∀ b o h, evLoad C.P t (.pointer (some ⟨b, o, none⟩)) h = (rowOf h b).bind (cellAt o) := fun b o h => by
  rw [evLoad_ptr]; congr 1; funext cs; exact evPart_cell ht
theorem L_loadA {t : TypeId} {n : Nat} (ht : tAgg C.P t = some true) (hn : tSize C.P t = some n) : ∀ b o h, evLoad C.P t (.pointer (some ⟨b, o, none⟩)) h = (rowOf h b).bind (aggAt o n) := fun b o h => by
  rw [evLoad_ptr]; congr 1; funext cs; exact evPart_agg ht hn
theorem cellAt_eq {o : Nat} {cs : List Value} : cellAt o cs = cs[o]? := rfl
theorem aggAt_eq {o n : Nat} {cs : List Value} (h : o + n ≤ cs.length) : aggAt o n cs = some (.agg ((cs.drop o).take n).toArray) := by unfold aggAt; rw [decide_eq_true h]; rfl

/-! ### a store -/
def wrOb (h : Hp) (b o : Nat) (vs : List Value) : Option Ob → Option Hp
  | some (.row cs e (.rw base olds)) =>
    bif decide (o + vs.length ≤ cs.length) && vs.all isCell then
      bif decide (base ≤ o) then some (h.set b (.row (splice cs o vs) e (.rw base olds)))
      else some ((kill h olds).set b (.row (splice cs o vs) e (.rw 0 [])))
    else none
  | _ => none
theorem writeAt_def (h : Hp) (b o : Nat) (vs : List Value) : writeAt h b o vs = wrOb h b o vs (h.get b) := rfl
theorem wrOb_rw {h : Hp} {b o : Nat} {vs cs : List Value} {e : TypeId} {base : Nat} {olds : List Nat} (h1 : o + vs.length ≤ cs.length) (h2 : base ≤ o) :
    wrOb h b o vs (some (.row cs e (.rw base olds))) = bif vs.all isCell then some (h.set b (.row (splice cs o vs) e (.rw base olds))) else none := by
  simp only [wrOb, decide_eq_true h1, decide_eq_true h2, Bool.true_and, cond_true]
theorem L_store {t : TypeId} {n : Nat} (hn : tSize C.P t = some n) : ∀ b o v h, evStore C.P t (.pointer (some ⟨b, o, none⟩)) v h = bif Nat.beq n v.cells.size then writeAt h b o v.cells.toList else none := fun b o v h => by
  have e : (some n == some v.cells.size) = Nat.beq n v.cells.size := by rw [Bool.eq_iff_iff]; simp
  simp only [evStore, hn, e]
theorem cells_agg {cs : Array Value} : (Value.agg cs).cells = cs := rfl
theorem cells_bool {b : Bool} : (Value.bool b).cells = #[.bool b] := rfl
theorem cells_int {k : IntKind} {n : Int} : (Value.int k n).cells = #[.int k n] := rfl
theorem cells_string {s : ByteArray} : (Value.string s).cells = #[.string s] := rfl
theorem cells_pointer {p : Option Addr} : (Value.pointer p).cells = #[.pointer p] := rfl
theorem cells_slice {a : Option Addr} {l c : Nat} : (Value.slice a l c).cells = #[.slice a l c] := rfl
theorem cells_map {m : Option Nat} : (Value.map m).cells = #[.map m] := rfl
theorem isCell_bool {b : Bool} : isCell (.bool b) = true := rfl
theorem isCell_int {k : IntKind} {n : Int} : isCell (.int k n) = true := rfl
theorem isCell_string {s : ByteArray} : isCell (.string s) = true := rfl
theorem isCell_pointer {p : Option Addr} : isCell (.pointer p) = true := rfl
theorem isCell_slice {a : Option Addr} {l c : Nat} : isCell (.slice a l c) = true := rfl
theorem isCell_map {m : Option Nat} : isCell (.map m) = true := rfl

/-! ### operations of a type -/
section
variable {t : TypeId}
theorem L_bin (ht : evBin.tPtr C.P t = false) : ∀ d op x y ty' ty p af g fr h Q, WpP C ⟨d, .binOp op t x y ty', ty, p, af, g⟩ fr h Q = onSome (ev1 fr x) (kTwo y (evBin C.P op t x y) fr h Q) := fun _ _ _ _ _ _ _ _ _ _ _ _ => P_binOp ht
/-- Two values held against each other, where memory may be asked. -/
def cmpR (P : Program) (op : BinOp) (t : TypeId) (h : Hp) (a b : Value) : Option Value := match op, a, b with
  | .eql, .pointer (some ⟨a, i, none⟩), .pointer (some ⟨b, j, none⟩) => bif evRead.tPtr P t && evRead.alive h a && evRead.alive h b then some (.bool (a == b && i == j)) else none
  | .neq, .pointer (some ⟨a, i, none⟩), .pointer (some ⟨b, j, none⟩) => bif evRead.tPtr P t && evRead.alive h a && evRead.alive h b then some (.bool !(a == b && i == j)) else none
  | _, _, _ => none
def cmpV (P : Program) (op : BinOp) (t : TypeId) (x y : Operand) (h : Hp) (a b : Value) : Option Value := match cmpR P op t h a b with
  | some v => some v
  | none => evBin P op t x y a b
def eqOp : BinOp → Bool
  | .eql => true
  | .neq => true
  | _ => false
theorem L_cmp (ht : evBin.tPtr C.P t = true) {op : BinOp} (ho : eqOp op = true) : ∀ d x y ty' ty p af g fr h Q, WpP C ⟨d, .binOp op t x y ty', ty, p, af, g⟩ fr h Q = onSome (ev1 fr x) (kTwo y (cmpV C.P op t x y h) fr h Q) := by
  intro d x y ty' ty p af g fr h Q
  have hk : kindOf C.P ⟨d, .binOp op t x y ty', ty, p, af, g⟩ = .read := by cases op <;> simp [eqOp] at ho <;> simp [kindOf, ht]
  rw [propext (WpP_read hk)]
  show onSome _ _ = _
  have he : evReadOrPure C.P fr ⟨d, .binOp op t x y ty', ty, p, af, g⟩ h = (ev1 fr x).bind fun a => (ev1 fr y).bind fun b => cmpV C.P op t x y h a b := by
    unfold evReadOrPure
    simp only [evRead, evPure]
    cases ev1 fr x with
    | none => rfl
    | some a => cases ev1 fr y with
      | none => rfl
      | some b => rfl
  rw [he]
  simp only [onSome_bind]
  rfl
def aliveOb : Option Ob → Bool
  | some (.row _ _ (.rw 0 [])) => true
  | _ => false
theorem alive_row {cs : List Value} {e : TypeId} : aliveOb (some (.row cs e (.rw 0 []))) = true := rfl
theorem L_cmpE (ht : evRead.tPtr C.P t = true) : ∀ x y h a i b j, aliveOb (h.get a) = true → aliveOb (h.get b) = true →
    cmpV C.P .eql t x y h (.pointer (some ⟨a, i, none⟩)) (.pointer (some ⟨b, j, none⟩)) = some (.bool (a == b && i == j)) := fun x y h a i b j h1 h2 => by
  have e1 : evRead.alive h a = true := h1
  have e2 : evRead.alive h b = true := h2
  simp [cmpV, cmpR, ht, e1, e2]
theorem L_cmpN (ht : evRead.tPtr C.P t = true) : ∀ x y h a i b j, aliveOb (h.get a) = true → aliveOb (h.get b) = true →
    cmpV C.P .neq t x y h (.pointer (some ⟨a, i, none⟩)) (.pointer (some ⟨b, j, none⟩)) = some (.bool !(a == b && i == j)) := fun x y h a i b j h1 h2 => by
  have e1 : evRead.alive h a = true := h1
  have e2 : evRead.alive h b = true := h2
  simp [cmpV, cmpR, ht, e1, e2]

theorem toList_data (s : ByteArray) : s.toList = s.data.toList := ByteArray.toList_eq s
theorem evBin_eqS {P : Program} {t : TypeId} {xo yo : Operand} {s u : ByteArray} : evBin P .eql t xo yo (.string s) (.string u) = some (.bool (decide (s = u))) := by
  have e : (s.toList == u.toList) = decide (s = u) := by
    rw [toList_data, toList_data, Bool.eq_iff_iff]
    simp only [beq_iff_eq, decide_eq_true_eq]
    exact ⟨fun h => by cases s; cases u; simp only [ByteArray.mk.injEq]; exact Array.toList_inj.1 h, fun h => by rw [h]⟩
  rw [evBin_eqlS, e]
theorem evBin_neS {P : Program} {t : TypeId} {xo yo : Operand} {s u : ByteArray} : evBin P .neq t xo yo (.string s) (.string u) = some (.bool !decide (s = u)) := by
  have e := evBin_eqS (P := P) (t := t) (xo := xo) (yo := yo) (s := s) (u := u)
  rw [evBin_eqlS] at e
  simp only [Option.some.injEq, Value.bool.injEq] at e
  rw [evBin_neqS, e]

/-! lengths, indices, pieces -/
theorem L_len (ht : tMap C.P t = none) : ∀ d x ty p af g fr h Q, WpP C ⟨d, .call ⟨.builtin .len, #[x], #[t]⟩, ty, p, af, g⟩ fr h Q = onSome (ev1 fr x) (kOne (evLen C.P t) h Q) := fun _ _ _ _ _ _ _ _ _ => P_len ht
theorem L_lenStr (ht : tString C.P t = some true) : ∀ s, evLen C.P t (.string s) = some (.int .i64 s.size) := fun _ => evLen_string ht
theorem L_lenSl {e : TypeId} (ht : tSliceElem C.P t = some e) : ∀ a n c, evLen C.P t (.slice a n c) = some (.int .i64 n) := fun _ _ _ => evLen_slice ht
def mapLen (h : Hp) (v : Value) : Option Value := (mapOf h v).map fun es => .int .i64 es.length
theorem L_lenMap {kt et : TypeId} (ht : tMap C.P t = some (kt, et)) : ∀ d x ty p af g fr h Q, WpP C ⟨d, .call ⟨.builtin .len, #[x], #[t]⟩, ty, p, af, g⟩ fr h Q = onSome (ev1 fr x) (kOne (mapLen h) h Q) := fun _ _ _ _ _ _ _ _ _ => P_lenMap ht

def byteAt (s : ByteArray) (k : Nat) : UInt8 := s.data.toList.getD k 0
theorem L_index (ht : tString C.P t = some true) : ∀ s k (i : Int), 0 ≤ i → i < s.size → evIndex C.P t (.string s) (.int k i) = some (.int .u8 ((byteAt s i.toNat).toNat : Int)) := fun s k i h0 h1 => by
  have hi : i.toNat < s.size := by omega
  have : s[i.toNat]? = some (byteAt s i.toNat) := by
    rw [getElem?_pos s i.toNat hi]
    unfold byteAt
    congr 1
    have : i.toNat < s.data.toList.length := by rw [Array.length_toList]; exact hi
    rw [List.getD_eq_getElem?_getD, List.getElem?_eq_getElem this]
    rfl
  simp [evIndex, ht, h0, this]
theorem L_indexAddr {e n : Nat} (h1 : tSliceElem C.P t = some e) (h2 : tSize C.P e = some n) : ∀ b o (len : Nat) cap k (i : Int), 0 ≤ i → i < len →
    evIndexAddr C.P t (.slice (some ⟨b, o, none⟩) len cap) (.int k i) = some (.pointer (some ⟨b, o + i.toNat * n, none⟩)) := fun b o len cap k i h0 hl => by
  simp [evIndexAddr, h1, h2, h0, hl]
theorem L_indexArr {e n m : Nat} (h1 : tArray C.P t = some (m, e)) (h2 : tSize C.P e = some n) : ∀ b o k (i : Int), 0 ≤ i → i < m →
    evIndexAddr C.P t (.pointer (some ⟨b, o, none⟩)) (.int k i) = some (.pointer (some ⟨b, o + i.toNat * n, none⟩)) := fun b o k i h0 hl => by
  simp [evIndexAddr, h1, h2, h0, hl]

/-! slices -/
theorem opt_none {fr : Fr} : evPure.opt fr none = some none := rfl
theorem opt_some {fr : Fr} {x : Operand} : evPure.opt fr (some x) = (ev1 fr x).map some := rfl
theorem L_slice : ∀ d t x lo hi mx ty p af g fr h Q, WpP C ⟨d, .slice t x lo hi mx, ty, p, af, g⟩ fr h Q =
    onSome (ev1 fr x) fun a => onSome (evPure.opt fr lo) fun l => onSome (evPure.opt fr hi) fun u => onSome (evPure.opt fr mx) fun m => onSome (evSlice C.P t a l u m) (at' Q h) := fun _ _ _ _ _ _ _ _ _ _ _ _ _ => P_slice
theorem L_sliceStr (ht : tString C.P t = some true) : (∀ s k (i : Int), 0 ≤ i → i ≤ s.size → evSlice C.P t (.string s) (some (.int k i)) none none = some (.string (s.extract i.toNat s.size))) ∧
    (∀ s k (i : Int) k' (j : Int), 0 ≤ i → i ≤ j → j ≤ s.size → evSlice C.P t (.string s) (some (.int k i)) (some (.int k' j)) none = some (.string (s.extract i.toNat j.toNat))) ∧
    (∀ s k' (j : Int), 0 ≤ j → j ≤ s.size → evSlice C.P t (.string s) none (some (.int k' j)) none = some (.string (s.extract 0 j.toNat))) := by
  refine ⟨fun s k i h0 h1 => ?_, fun s k i k' j h0 h1 h2 => ?_, fun s k' j h0 h1 => ?_⟩
  · simp [evSlice, ht, bound, h0, h1]
  · have h4 : i ≤ ((j.toNat : Nat) : Int) := by omega
    have h3 : 0 ≤ j := by omega
    simp only [evSlice, ht, bound, Option.isNone_none, BEq.rfl, Bool.and_self, cond_true, decide_eq_true h0, decide_eq_true h2, decide_eq_true h3, decide_eq_true h4, Option.bind_some]
  · simp [evSlice, ht, bound, h0, h1]
/-- A slice's abstract capacity, behind a slicing. -/
def capTail (cap l : Nat) : Nat := 2 * (cap / 2 - l) + cap % 2
theorem L_sliceSl {e n : Nat} (h1 : tSliceElem C.P t = some e) (h2 : tSize C.P e = some n) :
    (∀ b o (len : Nat) cap k (i : Int), 0 ≤ i → i ≤ len → len ≤ cap / 2 → evSlice C.P t (.slice (some ⟨b, o, none⟩) len cap) (some (.int k i)) none none = some (.slice (some ⟨b, o + i.toNat * n, none⟩) (len - i.toNat) (capTail cap i.toNat))) ∧
    (∀ b o (len : Nat) cap k (i : Int) k' (j : Int), 0 ≤ i → i ≤ j → j ≤ len → len ≤ cap / 2 → evSlice C.P t (.slice (some ⟨b, o, none⟩) len cap) (some (.int k i)) (some (.int k' j)) none = some (.slice (some ⟨b, o + i.toNat * n, none⟩) (j.toNat - i.toNat) (capTail cap i.toNat))) ∧
    (∀ b o (len : Nat) cap k' (j : Int), 0 ≤ j → j ≤ len → len ≤ cap / 2 → evSlice C.P t (.slice (some ⟨b, o, none⟩) len cap) none (some (.int k' j)) none = some (.slice (some ⟨b, o, none⟩) j.toNat cap)) := by
  refine ⟨fun b o len cap k i h0 ha hb => ?_, fun b o len cap k i k' j h0 ha hb hc => ?_, fun b o len cap k' j h0 ha hb => ?_⟩
  · simp [evSlice, h1, h2, bound, h0, ha, capTail]
  · have h3 : j ≤ ((cap / 2 : Nat) : Int) := by omega
    have h4 : i ≤ (j.toNat : Int) := by omega
    have h5 : 0 ≤ j := by omega
    have h3' : j ≤ (cap : Int) / 2 := by omega
    simp only [evSlice, h1, h2, bound, Option.map_some, decide_eq_true h0, decide_eq_true h3, decide_eq_true h4, decide_eq_true h5, Bool.and_self, cond_true, Option.bind_some, capTail]
  · have h3' : j ≤ (cap : Int) / 2 := by omega
    have : 2 * (cap / 2) + cap % 2 = cap := by omega
    simp [evSlice, h1, h2, bound, h0, h3', this]

/-! new blocks -/
theorem L_alloc {z : Value} {cs : List Value} (hz : tZero C.P t = some z) (hf : flat z = true) (hc : z.cells.toList = cs) : ∀ d ty p af g fr h Q, WpP C ⟨d, .alloc t, ty, p, af, g⟩ fr h Q = Q (.pointer (some ⟨h.next, 0, none⟩)) (h.push (.row cs t (.rw 0 []))) := fun _ _ _ _ _ _ _ _ => by
  subst hc; exact P_alloc hz hf
theorem L_makeMap {kt et : TypeId} (ht : tMap C.P t = some (kt, et)) : ∀ d ty p af g fr h Q, WpP C ⟨d, .makeMap t none, ty, p, af, g⟩ fr h Q = Q (.map (some h.next)) (h.push (.map [] 0)) := fun _ _ _ _ _ _ _ _ => P_makeMap ht
def mkRow (e len : Nat) (cs : List Value) : Ob × (Nat → Value) := (.row cs e (.rw 0 []), fun b => .slice (some ⟨b, 0, none⟩) len (2 * len))
def litRow (e n len : Nat) (z : List Value) (ps : List (Nat × Value)) : Option (Ob × (Nat → Value)) := (fillV (fun i => some (i * n, n)) (List.replicate len z).flatten ps).map (mkRow e len)
theorem L_buildSlice {e n : Nat} {z : Value} {zs : List Value} (h1 : tSliceElem C.P t = some e) (h2 : tSize C.P e = some n) (h3 : tZero C.P e = some z) (h4 : z.cells.toList = zs) (h5 : (flat z && Nat.beq zs.length n) = true) {len : Nat} (h6 : decide (len * n ≤ 2 ^ 24) = true) :
    ∀ d ps ty p af g fr h Q, WpP C ⟨d, .buildSlice t len ps, ty, p, af, g⟩ fr h Q = onSome (evParts fr ps.toList) fun ps => onSome (litRow e n len zs ps) (kNew h Q) := by
  intro d ps ty p af g fr h Q
  have hl := of_decide_eq_true h6
  subst h4
  simp only [Bool.and_eq_true] at h5
  have h6 : (z.cells.size == n) = true := by have := Nat.eq_of_beq_eq_true h5.2; simpa using this
  rw [P_buildSlice]
  have : evNew C.P fr ⟨d, .buildSlice t len ps, ty, p, af, g⟩ = (evParts fr ps.toList).bind fun ps => litRow e n len z.cells.toList ps := by
    simp only [evNew, h1, h2, h3, Option.bind_some, h6, h5.1, decide_eq_true hl, Bool.and_self, cond_true]
    rfl
  rw [this, onSome_bind]
/-- A slice made by its length. -/
def evMake (P : Program) (t : TypeId) (a b : Value) : Option (Ob × (Nat → Value)) := match a, b with
  | .int .i64 l, .int .i64 c => (tSliceElem P t).bind fun e => (tSize P e).bind fun n => (tBytes P e).bind fun by_ => (tZero P e).bind fun z =>
      bif decide (0 ≤ l) && decide (l ≤ c) && decide (c * (by_ + 1) ≤ 2 ^ 47) && (z.cells.size == n) && flat z then
        some (.row (List.replicate c.toNat z.cells.toList).flatten e (.rw 0 []), fun b => .slice (some ⟨b, 0, none⟩) l.toNat (2 * c.toNat))
      else none
  | _, _ => none
def kMk2 (P : Program) (t : TypeId) (h : Hp) (Q : Value → Hp → Prop) (a b : Value) : Prop := onSome (evMake P t a b) (kNew h Q)
theorem kMk2_eq {P : Program} {t : TypeId} {h : Hp} {Q : Value → Hp → Prop} {a b : Value} : kMk2 P t h Q a b = onSome (evMake P t a b) (kNew h Q) := rfl
def kMk (P : Program) (t : TypeId) (y : Operand) (fr : Fr) (h : Hp) (Q : Value → Hp → Prop) (a : Value) : Prop := onSome (ev1 fr y) (kMk2 P t h Q a)
theorem kMk_eq {P : Program} {t : TypeId} {y : Operand} {fr : Fr} {h : Hp} {Q : Value → Hp → Prop} {a : Value} : kMk P t y fr h Q a = onSome (ev1 fr y) (kMk2 P t h Q a) := rfl
theorem P_make {t : TypeId} {x y : Operand} {d : Option Tmp} {ty : TypeId} {p : String} {af : Array Edge} {g : Option (Nat × Bool)} {fr : Fr} {h : Hp} {Q : Value → Hp → Prop} :
    WpP C ⟨d, .makeSlice t x y, ty, p, af, g⟩ fr h Q = onSome (ev1 fr x) (kMk C.P t y fr h Q) := by
  rw [P_makeSlice]
  have : evNew C.P fr ⟨d, .makeSlice t x y, ty, p, af, g⟩ = (ev1 fr x).bind fun a => (ev1 fr y).bind fun b => evMake C.P t a b := by
    simp only [evNew]
    rfl
  rw [this, onSome_bind]
  congr 1
  funext a
  rw [onSome_bind]; rfl
theorem L_make {e n by_ : Nat} {z : Value} {zs : List Value} (h1 : tSliceElem C.P t = some e) (h2 : tSize C.P e = some n) (h2' : tBytes C.P e = some by_) (h3 : tZero C.P e = some z) (h4 : z.cells.toList = zs) (h5 : (flat z && Nat.beq zs.length n) = true)
    (l : Nat) (hl : (l : Int) * (by_ + 1) ≤ 2 ^ 47) : evMake C.P t (.int .i64 l) (.int .i64 l) = some (.row (List.replicate l zs).flatten e (.rw 0 []), fun b => .slice (some ⟨b, 0, none⟩) l (2 * l)) := by
  subst h4
  simp only [Bool.and_eq_true] at h5
  have h6 : (z.cells.size == n) = true := by have := Nat.eq_of_beq_eq_true h5.2; simpa using this
  have h0 : (0 : Int) ≤ l := by omega
  simp only [evMake, Option.bind_some, h1, h2, h2', h3, h6, h5.1, decide_eq_true h0, decide_eq_true hl, Int.le_refl, decide_true, Bool.and_self, cond_true, Int.toNat_natCast]

/-! strings out of bytes; conversions of numbers -/
theorem L_convInt {s : TypeId} {k : IntKind} (hs : tSliceElem C.P s = none) (ht : C.P.underlying t = some (.int k)) : ∀ d x ty p af g fr h Q, WpP C ⟨d, .convert s t x, ty, p, af, g⟩ fr h Q = onSome (ev1 fr x) (kOne (fun a => bif scal a then prunS C.P (convert s t a) else none) h Q) := fun _ _ _ _ _ _ _ _ _ => P_convert hs

/-- Bytes read as a text. -/
def bytesStr (P : Program) (s t : TypeId) (h : Hp) : Value → Option Value
  | .slice a n c => (tSliceElem P s).bind fun e => match P.underlying e, tString P t with
      | some (.int .u8), some true => (evCells 1 n (.slice a n c) h).bind fun cs => (toBytes cs).map fun l => .string ⟨l.toArray⟩
      | _, _ => none
  | _ => none
def convV (P : Program) (s t : TypeId) (h : Hp) (v : Value) : Option Value := match bytesStr P s t h v with
  | some u => some u
  | none => bif scal v then prunS P (convert s t v) else none
theorem convV_eq {P : Program} {s t : TypeId} {h : Hp} {v u : Value} (e : bytesStr P s t h v = some u) : convV P s t h v = some u := by unfold convV; rw [e]
theorem L_convBytes {s e : TypeId} (hs : tSliceElem C.P s = some e) :
    ∀ (fr : Fr) (h : Hp) d x ty p af g Q, WpP C ⟨d, .convert s t x, ty, p, af, g⟩ fr h Q = onSome (ev1 fr x) (kOne (convV C.P s t h) h Q) := by
  intro fr h d x ty p af g Q
  rw [propext (WpP_read (by simp [kindOf, hs]))]
  have : evReadOrPure C.P fr ⟨d, .convert s t x, ty, p, af, g⟩ h = (ev1 fr x).bind (convV C.P s t h) := by
    unfold evReadOrPure
    simp only [evRead, evPure]
    cases ev1 fr x with
    | none => rfl
    | some v =>
      simp only [Option.bind_some, convV]
      cases v <;> rfl
  show onSome _ _ = _
  rw [this, onSome_bind]
  rfl

/-! appends -/
theorem L_append {u e : TypeId} (hu : C.P.underlying u = some (.slice e)) : ∀ d s x ty p af g fr h Q, WpP C ⟨d, .call ⟨.builtin .append, #[s, x], #[t, u]⟩, ty, p, af, g⟩ fr h Q = onSome (ev1 fr s) (kApp C.P t x fr h Q) := fun _ _ _ _ _ _ _ _ _ _ => P_append hu
end
end Go.Ev
