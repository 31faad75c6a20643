/- Texts joined: what the claim needs of them. No condition. -/
import Derived.Test.YtnkfjalhibdjcaaGreatDoorBin3
import Derived.Test.YtnkfjalhibdjcaaGreatDoorBin4
namespace Go.Ev
open Go
set_option linter.unusedSimpArgs false
set_option linter.unusedVariables false
noncomputable section
def fI2 (g : IntKind → Int → Int → Value) (e : Option Value) (a b : Value) : Option Value := match a with
  | .int j x => match b with
    | .int k y => bif decide (j = k) then some (g k x y) else e
    | _ => e
  | _ => e
def gAdd (k : IntKind) (x y : Int) : Value := .int k (k.wrap (x + y))
def gSub (k : IntKind) (x y : Int) : Value := .int k (k.wrap (x - y))
def gMul (k : IntKind) (x y : Int) : Value := .int k (k.wrap (x * y))
def gEql (_ : IntKind) (x y : Int) : Value := .bool (x == y)
def gNeq (_ : IntKind) (x y : Int) : Value := .bool (x != y)
def gLss (_ : IntKind) (x y : Int) : Value := .bool (decide (x < y))
def gLeq (_ : IntKind) (x y : Int) : Value := .bool (decide (x ≤ y))
def gGtr (_ : IntKind) (x y : Int) : Value := .bool (decide (y < x))
def gGeq (_ : IntKind) (x y : Int) : Value := .bool (decide (y ≤ x))
def fBin (P : Program) (op : BinOp) (t : TypeId) (xo yo : Operand) (a b : Value) : Option Value := match op with
  | .add => fI2 gAdd (evBin P op t xo yo a b) a b
  | .sub => fI2 gSub (evBin P op t xo yo a b) a b
  | .mul => fI2 gMul (evBin P op t xo yo a b) a b
  | .eql => fI2 gEql (evBin P op t xo yo a b) a b
  | .neq => fI2 gNeq (evBin P op t xo yo a b) a b
  | .lss => fI2 gLss (evBin P op t xo yo a b) a b
  | .leq => fI2 gLeq (evBin P op t xo yo a b) a b
  | .gtr => fI2 gGtr (evBin P op t xo yo a b) a b
  | .geq => fI2 gGeq (evBin P op t xo yo a b) a b
  | _ => evBin P op t xo yo a b
theorem fI2_eq {P : Program} {op : BinOp} {t : TypeId} {xo yo : Operand} {g : IntKind → Int → Int → Value} (h : ∀ k x y, evBin P op t xo yo (.int k x) (.int k y) = some (g k x y)) (a b : Value) : fI2 g (evBin P op t xo yo a b) a b = evBin P op t xo yo a b := by
  unfold fI2
  split
  · split
    · rename_i j x _ k y
      by_cases hk : j = k
      · subst hk; rw [decide_eq_true rfl, h]; rfl
      · rw [decide_eq_false hk]; rfl
    · rfl
  · rfl
theorem fBin_eq (P : Program) (op : BinOp) (t : TypeId) (xo yo : Operand) (a b : Value) : fBin P op t xo yo a b = evBin P op t xo yo a b := by
  unfold fBin
  cases op <;> first
    | rfl
    | exact fI2_eq (fun _ _ _ => evBin_add) a b
    | exact fI2_eq (fun _ _ _ => evBin_sub) a b
    | exact fI2_eq (fun _ _ _ => evBin_mul) a b
    | exact fI2_eq (fun _ _ _ => evBin_eql) a b
    | exact fI2_eq (fun _ _ _ => evBin_neq) a b
    | exact fI2_eq (fun _ _ _ => evBin_lss) a b
    | exact fI2_eq (fun _ _ _ => evBin_leq) a b
    | exact fI2_eq (fun _ _ _ => evBin_gtr) a b
    | exact fI2_eq (fun _ _ _ => evBin_geq) a b
section
variable {α : Type}
def pthF : Nat → Nat → List Bool
  | 0, _ => []
  | f + 1, k => match k with
    | 0 => []
    | j + 1 => Nat.beq (j % 2) 0 :: pthF f (j / 2)
def pth (k : Nat) : List Bool := pthF (k + 1) k
def getP (p : List Bool) : Tr α → Option α :=
  List.rec (motive := fun _ => Tr α → Option α) (fun t => Tr.rec (motive := fun _ => Option α) none (fun _ v _ _ _ => v) t)
    (fun b _ ih t => Tr.rec (motive := fun _ => Option α) none (fun l _ r _ _ => ih (Bool.rec (motive := fun _ => Tr α) r l b)) t) p
def setP (p : List Bool) (a : α) : Tr α → Tr α :=
  List.rec (motive := fun _ => Tr α → Tr α) (fun t => Tr.rec (motive := fun _ => Tr α) (.n .e (some a) .e) (fun l _ r _ _ => .n l (some a) r) t)
    (fun b _ ih t => Tr.rec (motive := fun _ => Tr α) (Bool.rec (motive := fun _ => Tr α) (.n .e none (ih .e)) (.n (ih .e) none .e) b) (fun l v r _ _ => Bool.rec (motive := fun _ => Tr α) (.n l v (ih r)) (.n (ih l) v r) b) t) p
theorem getP_eq : ∀ (f k : Nat) (t : Tr α), k < f → getP (pthF f k) t = t.get k
  | 0, _, _, h => absurd h (by omega)
  | f + 1, k, t, h => by
    cases k with
    | zero => cases t <;> rfl
    | succ j =>
      have hj : j / 2 < f := by omega
      show getP (Nat.beq (j % 2) 0 :: pthF f (j / 2)) t = _
      cases t with
      | e => rfl
      | n l v r =>
        show getP (pthF f (j / 2)) (Bool.rec (motive := fun _ => Tr α) r l (Nat.beq (j % 2) 0)) = bif Nat.beq (j % 2) 0 then l.get (j / 2) else r.get (j / 2)
        rw [getP_eq f _ _ hj]
        cases Nat.beq (j % 2) 0 <;> rfl
theorem setP_eq (a : α) : ∀ (f k : Nat) (t : Tr α), k < f → setP (pthF f k) a t = Tr.setF f t k a
  | 0, _, _, h => absurd h (by omega)
  | f + 1, k, t, h => by
    cases k with
    | zero => cases t <;> rfl
    | succ j =>
      have hj : j / 2 < f := by omega
      show setP (Nat.beq (j % 2) 0 :: pthF f (j / 2)) a t = _
      cases t with
      | e =>
        show Bool.rec (motive := fun _ => Tr α) (Tr.n .e none (setP (pthF f (j / 2)) a .e)) (Tr.n (setP (pthF f (j / 2)) a .e) none .e) (Nat.beq (j % 2) 0) = bif Nat.beq (j % 2) 0 then Tr.n (Tr.setF f .e (j / 2) a) none .e else Tr.n .e none (Tr.setF f .e (j / 2) a)
        rw [setP_eq a f _ _ hj]
        cases Nat.beq (j % 2) 0 <;> rfl
      | n l v r =>
        show Bool.rec (motive := fun _ => Tr α) (Tr.n l v (setP (pthF f (j / 2)) a r)) (Tr.n (setP (pthF f (j / 2)) a l) v r) (Nat.beq (j % 2) 0) = bif Nat.beq (j % 2) 0 then Tr.n (Tr.setF f l (j / 2) a) v r else Tr.n l v (Tr.setF f r (j / 2) a)
        rw [setP_eq a f _ _ hj, setP_eq a f _ _ hj]
        cases Nat.beq (j % 2) 0 <;> rfl
def gG (t : Tr α) : Nat → Option α :=
  Tr.rec (motive := fun _ => Nat → Option α) (fun _ => none)
    (fun _ v _ il ir k => Nat.rec (motive := fun _ => Option α) v (fun j _ => Bool.rec (motive := fun _ => Option α) (ir (Nat.div j 2)) (il (Nat.div j 2)) (Nat.beq (Nat.mod j 2) 0)) k) t
theorem gG_eq : ∀ (t : Tr α) (k : Nat), gG t k = t.get k
  | .e, k => by cases k <;> rfl
  | .n l v r, k => by
    cases k with
    | zero => rfl
    | succ j =>
      show Bool.rec (motive := fun _ => Option α) (gG r (j / 2)) (gG l (j / 2)) (Nat.beq (j % 2) 0) = bif Nat.beq (j % 2) 0 then l.get (j / 2) else r.get (j / 2)
      rw [gG_eq l, gG_eq r]
      cases Nat.beq (j % 2) 0 <;> rfl
def tL (t : Tr α) : Tr α := Tr.rec (motive := fun _ => Tr α) .e (fun l _ _ _ _ => l) t
def tV (t : Tr α) : Option α := Tr.rec (motive := fun _ => Option α) none (fun _ v _ _ _ => v) t
def tR (t : Tr α) : Tr α := Tr.rec (motive := fun _ => Tr α) .e (fun _ _ r _ _ => r) t
def gS (a : α) (f : Nat) : Tr α → Nat → Tr α :=
  Nat.rec (motive := fun _ => Tr α → Nat → Tr α) (fun t _ => t)
    (fun _ ih t k => Nat.rec (motive := fun _ => Tr α) (.n (tL t) (some a) (tR t)) (fun j _ => Bool.rec (motive := fun _ => Tr α) (.n (tL t) (tV t) (ih (tR t) (Nat.div j 2))) (.n (ih (tL t) (Nat.div j 2)) (tV t) (tR t)) (Nat.beq (Nat.mod j 2) 0)) k) f
theorem gS_eq (a : α) : ∀ (f : Nat) (t : Tr α) (k : Nat), gS a f t k = Tr.setF f t k a
  | 0, _, _ => rfl
  | f + 1, t, k => by
    cases k with
    | zero => cases t <;> rfl
    | succ j =>
      show Bool.rec (motive := fun _ => Tr α) (Tr.n (tL t) (tV t) (gS a f (tR t) (j / 2))) (Tr.n (gS a f (tL t) (j / 2)) (tV t) (tR t)) (Nat.beq (j % 2) 0) = _
      rw [gS_eq a f, gS_eq a f]
      cases t with
      | e =>
        show _ = bif Nat.beq (j % 2) 0 then Tr.n (Tr.setF f .e (j / 2) a) none .e else Tr.n .e none (Tr.setF f .e (j / 2) a)
        cases Nat.beq (j % 2) 0 <;> rfl
      | n l v r =>
        show _ = bif Nat.beq (j % 2) 0 then Tr.n (Tr.setF f l (j / 2) a) v r else Tr.n l v (Tr.setF f r (j / 2) a)
        cases Nat.beq (j % 2) 0 <;> rfl
end
def fGet (fr : Fr) (k : Nat) : Option Value := getP (pth k) fr
theorem fGet_eq (fr : Fr) (k : Nat) : fGet fr k = fr.get k := getP_eq _ _ _ (Nat.lt_succ_self k)
def fPut (fr : Fr) (dst : Option Tmp) (v : Value) : Fr := Option.rec (motive := fun _ => Fr) fr (fun d => setP (pth d) v fr) dst
theorem fPut_eq (fr : Fr) (dst : Option Tmp) (v : Value) : fPut fr dst v = put fr dst v := by
  cases dst with
  | none => rfl
  | some d => exact setP_eq v _ _ _ (Nat.lt_succ_self d)
def fEv (fr : Fr) (x : Operand) : Option Value := match x with
  | .tmp t => fGet fr t
  | .const v => bif flat v then some v else none
  | .func f => some (.func (.func f) #[] #[])
  | .global _ => none
theorem fEv_eq (fr : Fr) (x : Operand) : fEv fr x = ev1 fr x := by cases x <;> first | exact fGet_eq _ _ | rfl
def fEvs (fr : Fr) : List Operand → Option (List Value)
  | [] => some []
  | x :: l => match fEv fr x with
    | some v => match fEvs fr l with
      | some vs => some (v :: vs)
      | none => none
    | none => none
theorem fEvs_eq (fr : Fr) : ∀ l, fEvs fr l = evs fr l
  | [] => rfl
  | x :: l => by
    unfold fEvs evs
    rw [fEv_eq, fEvs_eq fr l]
    cases ev1 fr x with
    | none => rfl
    | some v => cases evs fr l <;> rfl
def fWantV (want : Bool) : Option Value → Option Bool
  | some (.bool b) => some (b == want)
  | some (.tuple _) => some false
  | _ => none
def fWanted (ops : Array Oper) (fr : Fr) (o : Oper) : Option Bool := match o.guard with
  | none => some true
  | some (j, want) => fWantV want (((ops[j]?).bind (·.dst)).bind (fGet fr))
theorem fWanted_eq (ops : Array Oper) (fr : Fr) (o : Oper) : fWanted ops fr o = evWanted ops fr o := by
  unfold fWanted evWanted
  cases o.guard with
  | none => rfl
  | some q =>
    obtain ⟨j, want⟩ := q
    have : fGet fr = fr.get := funext (fGet_eq fr)
    simp only [this]
    rfl
def hGet (h : Hp) (b : Nat) : Option Ob := gG h.t b
theorem hGet_eq (h : Hp) (b : Nat) : hGet h b = h.get b := gG_eq _ _
def hSet (h : Hp) (b : Nat) (o : Ob) : Hp := ⟨gS o (b + 1) h.t b, h.next⟩
theorem hSet_eq (h : Hp) (b : Nat) (o : Ob) : hSet h b o = h.set b o := by unfold hSet; rw [gS_eq]; rfl
def hPush (h : Hp) (o : Ob) : Hp := ⟨gS o (h.next + 1) h.t h.next, h.next + 1⟩
theorem hPush_eq (h : Hp) (o : Ob) : hPush h o = h.push o := by unfold hPush; rw [gS_eq]; rfl
def fRowO : Option Ob → Option (List Value)
  | some (.row cs _ st) => match st with
    | .dead => none
    | _ => some cs
  | _ => none
theorem fRow_eq (h : Hp) (b : Nat) : fRowO (hGet h b) = rowOf h b := by
  rw [hGet_eq]; unfold rowOf fRowO
  cases h.get b with
  | none => rfl
  | some o => cases o with
    | row cs e st => cases st <;> rfl
    | map es c => rfl
def fLd (P : Program) (t : TypeId) (o : Nat) : Option (List Value) → Option Value
  | some cs => evPart P t cs o
  | none => none
def fLoad (P : Program) (t : TypeId) (h : Hp) (v : Value) : Option Value := match v with
  | .pointer (some ⟨b, o, none⟩) => fLd P t o (fRowO (hGet h b))
  | _ => none
theorem fLoad_eq (P : Program) (t : TypeId) (h : Hp) (v : Value) : fLoad P t h v = evLoad P t v h := by
  unfold fLoad
  split
  · show _ = (rowOf h _).bind fun cs => evPart P t cs _
    rw [fRow_eq]; cases rowOf h _ <;> rfl
  · rename_i hn
    unfold evLoad
    split
    · rename_i b o; exact absurd rfl (hn b o)
    · rfl
def fWrO (h : Hp) (b o : Nat) (vs : List Value) : Option Ob → Option Hp
  | some (.row cs e st) => match st with
    | .rw base olds => bif decide (o + vs.length ≤ cs.length) && vs.all isCell then
        bif decide (base ≤ o) then some (hSet h b (.row (splice cs o vs) e (.rw base olds)))
        else some ((kill h olds).set b (.row (splice cs o vs) e (.rw 0 [])))
      else none
    | _ => none
  | _ => none
theorem fWrO_eq (h : Hp) (b o : Nat) (vs : List Value) : fWrO h b o vs (hGet h b) = writeAt h b o vs := by
  rw [hGet_eq]; unfold writeAt fWrO
  cases h.get b with
  | none => rfl
  | some ob => cases ob with
    | row cs e st => cases st <;> first | rfl | (simp only [hSet_eq])
    | map es c => rfl
def fSto (P : Program) (t : TypeId) (h : Hp) (a v : Value) : Option Hp := match a with
  | .pointer (some ⟨b, o, none⟩) => bif tSize P t == some v.cells.size then fWrO h b o v.cells.toList (hGet h b) else none
  | _ => none
theorem fSto_eq (P : Program) (t : TypeId) (h : Hp) (a v : Value) : fSto P t h a v = evStore P t a v h := by
  unfold fSto
  split
  · show _ = bif tSize P t == some v.cells.size then writeAt h _ _ v.cells.toList else none
    rw [fWrO_eq]
  · rename_i hn
    unfold evStore
    split
    · rename_i b o; exact absurd rfl (hn b o)
    · rfl
def f1 (fr : Fr) (x : Operand) (g : Value → Option Value) : Option Value := match fEv fr x with
  | some v => g v
  | none => none
def f2 (fr : Fr) (x y : Operand) (g : Value → Value → Option Value) : Option Value := match fEv fr x with
  | some v => match fEv fr y with
    | some u => g v u
    | none => none
  | none => none
theorem f1_eq (fr : Fr) (x : Operand) (g : Value → Option Value) : f1 fr x g = (ev1 fr x).bind g := by unfold f1; rw [fEv_eq]; cases ev1 fr x <;> rfl
theorem f2_eq (fr : Fr) (x y : Operand) (g : Value → Value → Option Value) : f2 fr x y g = (ev1 fr x).bind fun a => (ev1 fr y).bind fun b => g a b := by unfold f2; rw [fEv_eq, fEv_eq]; cases ev1 fr x <;> cases ev1 fr y <;> rfl
def fPick2 (fr : Fr) (a b : Operand) : Value → Option Value
  | .bool true => fEv fr a
  | .bool false => fEv fr b
  | _ => none
def fNot (e : Option Value) : Value → Option Value
  | .bool b => some (.bool (!b))
  | _ => e
def fUn (P : Program) (op : UnOp) (a : Value) : Option Value := match op with
  | .not => fNot (bif scal a then prunS P (Op.unary op a) else none) a
  | _ => bif scal a then prunS P (Op.unary op a) else none
def fNilC : Value → Option Value
  | .pointer (some a) => some (.pointer (some a))
  | _ => none
def fEx (i : Nat) : Value → Option Value
  | .tuple vs => vs[i]?
  | _ => none
def fConv (P : Program) (s d : TypeId) (a : Value) : Option Value := bif scal a then prunS P (convert s d a) else none
def fPure (P : Program) (fr : Fr) (o : Oper) : Option Value := match o.op with
  | .move x => fEv fr x
  | .assign x => fEv fr x
  | .pick c a b => f1 fr c (fPick2 fr a b)
  | .nilCheck x => f1 fr x fNilC
  | .binOp op t x y _ => f2 fr x y (fBin P op t x y)
  | .unOp op _ x => f1 fr x (fUn P op)
  | .convert s d x => f1 fr x (fConv P s d)
  | .fieldAddr t x i => f1 fr x fun a => evFieldAddr P t a i
  | .field t x i => f1 fr x fun a => evField P t a i
  | .indexAddr t x i => f2 fr x i (evIndexAddr P t)
  | .extract x i => f1 fr x (fEx i)
  | .call c => evPureCall P fr c o.type
  | _ => evPure P fr o
theorem fPure_eq (P : Program) (fr : Fr) (o : Oper) : fPure P fr o = evPure P fr o := by
  unfold fPure
  have e : ∀ q, o.op = q → evPure P fr o = evPure P fr { o with op := q } := fun q h => by subst h; rfl
  cases hq : o.op with
  | binOp op t x y ty =>
    rw [e _ hq]
    simp only [f2_eq]
    show _ = (ev1 fr x).bind fun a => (ev1 fr y).bind fun b => evBin P op t x y a b
    simp only [fBin_eq]
  | unOp op t x =>
    rw [e _ hq]
    simp only [f1_eq]
    show _ = (ev1 fr x).bind fun a => bif scal a then prunS P (Op.unary op a) else none
    congr 1
    funext a
    unfold fUn
    cases op <;> first | rfl | (cases a <;> rfl)
  | move x => rw [e _ hq]; exact fEv_eq _ _
  | assign x => rw [e _ hq]; exact fEv_eq _ _
  | pick c a b =>
    rw [e _ hq]; simp only [f1_eq]
    have k : fPick2 fr a b = fun | .bool true => ev1 fr a | .bool false => ev1 fr b | _ => none := by funext v; unfold fPick2; rw [fEv_eq, fEv_eq]
    rw [k]; rfl
  | nilCheck x => rw [e _ hq]; simp only [f1_eq]; rfl
  | convert s d x => rw [e _ hq]; simp only [f1_eq]; rfl
  | fieldAddr t x i => rw [e _ hq]; simp only [f1_eq]; rfl
  | field t x i => rw [e _ hq]; simp only [f1_eq]; rfl
  | indexAddr t x i => rw [e _ hq]; simp only [f2_eq]; rfl
  | extract x i => rw [e _ hq]; simp only [f1_eq]; rfl
  | call c => rw [e _ hq]; rfl
  | _ => rfl
def fRead (P : Program) (fr : Fr) (o : Oper) (h : Hp) : Option Value := match o.op with
  | .load t x => match f1 fr x (fLoad P t h) with
    | some v => some v
    | none => evPure P fr o
  | _ => match evRead P fr o h with
    | some v => some v
    | none => fPure P fr o
theorem fRead_eq (P : Program) (fr : Fr) (o : Oper) (h : Hp) : fRead P fr o h = evReadOrPure P fr o h := by
  unfold fRead evReadOrPure
  rw [fPure_eq]
  have e : ∀ q, o.op = q → evRead P fr o h = evRead P fr { o with op := q } h := fun q h => by subst h; rfl
  cases hq : o.op with
  | load t x =>
    rw [e _ hq]; simp only [f1_eq]
    have k : fLoad P t h = fun a => evLoad P t a h := funext (fLoad_eq P t h)
    rw [k]; rfl
  | _ => rfl
def fMk (h : Hp) : Option (Ob × (Nat → Value)) → Option (Value × Hp)
  | some (ob, mk) => some (mk h.next, hPush h ob)
  | none => none
def fWith (h : Hp) : Option Value → Option (Value × Hp)
  | some v => some (v, h)
  | none => none
def fSt : Option Hp → Option (Value × Hp)
  | some h => some (undef, h)
  | none => none
def fStore (P : Program) (t : TypeId) (h : Hp) (fr : Fr) (a x : Operand) : Option (Value × Hp) := match fEv fr a with
  | some a => match fEv fr x with
    | some v => fSt (fSto P t h a v)
    | none => none
  | none => none
def fGo (call : CallF) (h : Hp) (vs : Option (List Value)) : Value → Option (Value × Hp)
  | .func (.func g) first captured => match vs with
    | some vs => call g (first.toList ++ vs ++ captured.toList) h
    | none => none
  | _ => none
def fCallO (P : Program) (call : CallF) (fr : Fr) (c : Call) (h : Hp) : Option (Value × Hp) := match c.callee with
  | .value f => match fEv fr f with
    | some v => fGo call h (fEvs fr c.args.toList) v
    | none => none
  | _ => evEffCall P call fr c h
def fEff (P : Program) (call : CallF) (fr : Fr) (o : Oper) (h : Hp) : Option (Value × Hp) := match o.op with
  | .store t a x => fStore P t h fr a x
  | .call c => fCallO P call fr c h
  | _ => evEff P call fr o h
theorem fEff_eq (P : Program) (call : CallF) (fr : Fr) (o : Oper) (h : Hp) : fEff P call fr o h = evEff P call fr o h := by
  unfold fEff
  have e : ∀ q, o.op = q → evEff P call fr o h = evEff P call fr { o with op := q } h := fun q h => by subst h; rfl
  cases hq : o.op with
  | store t a x =>
    rw [e _ hq]
    show fStore P t h fr a x = (ev1 fr a).bind fun a => (ev1 fr x).bind fun v => (evStore P t a v h).map fun h => (undef, h)
    unfold fStore
    rw [fEv_eq, fEv_eq]
    cases ev1 fr a with
    | none => rfl
    | some a => cases ev1 fr x with
      | none => rfl
      | some v => simp only [Option.bind_some, fSto_eq]; cases evStore P t a v h <;> rfl
  | call c =>
    rw [e _ hq]
    show fCallO P call fr c h = evEffCall P call fr c h
    unfold fCallO
    simp only [fEv_eq, fEvs_eq]
    have e2 : ∀ q, c.callee = q → evEffCall P call fr c h = evEffCall P call fr { c with callee := q } h := fun q h => by subst h; rfl
    cases hc : c.callee with
    | value f =>
      rw [e2 _ hc]
      have key : ∀ x : Option Value, (match x with
        | some v => fGo call h (evs fr c.args.toList) v
        | none => none) = x.bind fun
          | .func (.func g) first captured => (evs fr c.args.toList).bind fun vs => call g (first.toList ++ vs ++ captured.toList) h
          | _ => none := by
        intro x
        cases x with
        | none => rfl
        | some v =>
          simp only [Option.bind_some]
          unfold fGo
          cases evs fr c.args.toList with
          | none => cases v <;> first | rfl | (rename_i a _ _; cases a <;> rfl)
          | some vs => cases v <;> first | rfl | (rename_i a _ _; cases a <;> rfl)
      exact key (ev1 fr f)
    | _ => rfl
  | _ => rfl
def fOp (P : Program) (call : CallF) (fr : Fr) (o : Oper) (h : Hp) : Option (Value × Hp) := match kindOf P o with
  | .pure => fWith h (fPure P fr o)
  | .read => fWith h (fRead P fr o h)
  | .new => fMk h (evNew P fr o)
  | .eff => fEff P call fr o h
theorem fOp_eq (P : Program) (call : CallF) (fr : Fr) (o : Oper) (h : Hp) : fOp P call fr o h = evOp P call fr o h := by
  unfold fOp evOp
  cases kindOf P o with
  | pure => simp only [fPure_eq]; cases evPure P fr o <;> rfl
  | read => simp only [fRead_eq]; cases evReadOrPure P fr o h <;> rfl
  | new =>
    simp only
    cases evNew P fr o with
    | none => rfl
    | some q => obtain ⟨ob, mk⟩ := q; show some (mk h.next, hPush h ob) = _; rw [hPush_eq]; rfl
  | eff => simp only [fEff_eq]
def fOps (P : Program) (call : CallF) (ops : Array Oper) : List Oper → Fr → Hp → Option (Fr × Hp)
  | [], fr, h => some (fr, h)
  | o :: rest, fr, h => match fWanted ops fr o with
    | some true => match fOp P call fr o h with
      | some (v, h) => fOps P call ops rest (fPut fr o.dst v) h
      | none => none
    | some false => fOps P call ops rest (fPut fr o.dst undef) h
    | none => none
theorem fOps_eq (P : Program) (call : CallF) (ops : Array Oper) : ∀ (l : List Oper) (fr : Fr) (h : Hp), fOps P call ops l fr h = evOps P call ops l fr h
  | [], _, _ => rfl
  | o :: rest, fr, h => by
    unfold fOps evOps
    rw [fOp_eq, fWanted_eq]
    simp only [fPut_eq]
    cases evWanted ops fr o with
    | none => rfl
    | some w =>
      cases w with
      | true =>
        simp only
        cases evOp P call fr o h with
        | none => rfl
        | some q => obtain ⟨v, h1⟩ := q; exact fOps_eq P call ops rest _ _
      | false => exact fOps_eq P call ops rest _ _
def fTrcE (k : Kd) (s : Trc) (j : Nat) (dst : Option Tmp) : Option (Value × Hp) → Option Trc
  | none => none
  | some (v, h) => match k with
    | .eff => some { fr := fPut s.fr dst v, h := h, done := j :: s.done, bs := (j :: s.done, h) :: s.bs, rs := s.rs }
    | .read => some { s with fr := fPut s.fr dst v, h := h, rs := (j, s.fr, v) :: s.rs }
    | _ => some { s with fr := fPut s.fr dst v, h := h }
def fTrc1 (P : Program) (call : CallF) (ops : Array Oper) (s : Trc) (j : Nat) (o : Oper) : Option Trc := match fWanted ops s.fr o with
  | none => none
  | some false => bif kindOf P o == .eff then some { s with fr := fPut s.fr o.dst undef, done := j :: s.done, bs := (j :: s.done, s.h) :: s.bs } else some { s with fr := fPut s.fr o.dst undef }
  | some true => fTrcE (kindOf P o) s j o.dst (fOp P call s.fr o s.h)
def fTrcStep (P : Program) (call : CallF) (ops : Array Oper) (s : Trc) (j : Nat) : Option Trc := match ops[j]? with
  | none => none
  | some o => fTrc1 P call ops s j o
theorem fTrcStep_eq (P : Program) (call : CallF) (ops : Array Oper) (s : Trc) (j : Nat) : fTrcStep P call ops s j = trcStep P call ops s j := by
  unfold fTrcStep trcStep
  cases ops[j]? with
  | none => rfl
  | some o =>
    simp only
    unfold fTrc1
    rw [fOp_eq, fWanted_eq]
    simp only [fPut_eq]
    cases evWanted ops s.fr o with
    | none => rfl
    | some w =>
      cases w with
      | false => rfl
      | true =>
        simp only
        cases evOp P call s.fr o s.h with
        | none => rfl
        | some q => obtain ⟨v, h⟩ := q; unfold fTrcE; simp only [fPut_eq]; cases kindOf P o <;> rfl
def fTrc (P : Program) (call : CallF) (ops : Array Oper) : List Nat → Trc → Option Trc
  | [], s => some s
  | j :: l, s => match fTrcStep P call ops s j with
    | some s => fTrc P call ops l s
    | none => none
theorem fTrc_eq (P : Program) (call : CallF) (ops : Array Oper) : ∀ (l : List Nat) (s : Trc), fTrc P call ops l s = trc P call ops l s
  | [], _ => rfl
  | j :: l, s => by
    unfold fTrc trc
    rw [fTrcStep_eq]
    cases trcStep P call ops s j with
    | none => rfl
    | some s => exact fTrc_eq P call ops l s
def fDraw (P : Program) (call : CallF) (_ : Nat) (ops : Array Oper) (fr : Fr) (h : Hp) : Option (Fr × Hp) :=
  match fTrc P call ops (sched P ops) { fr := fr, h := h, done := [], bs := [([], h)], rs := [] } with
  | some s => bif readsOk P ops ((List.range ops.size).filter fun j => kindAt P ops j == .eff) s then some (s.fr, s.h) else none
  | none => none
theorem fDraw_eq (P : Program) (call : CallF) (id : Nat) (ops : Array Oper) (fr : Fr) (h : Hp) : fDraw P call id ops fr h = evDraw P call id ops fr h := by
  unfold fDraw evDraw; rw [fTrc_eq]; rfl
def fNorm : Option (Fr × Hp) → Res
  | some (fr, h) => some (.norm, fr, h)
  | none => none
def fThen (k : Fr → Hp → Res) : Res → Res
  | some (.norm, fr, h) => k fr h
  | r => r
def fCond (a b : Fr → Hp → Res) (fr : Fr) (h : Hp) : Option Value → Res
  | some (.bool true) => a fr h
  | some (.bool false) => b fr h
  | _ => none
def fBlk (id : Nat) : Res → Res
  | some (.exit j, fr, h) => bif Nat.beq j id then some (.norm, fr, h) else some (.exit j, fr, h)
  | r => r
def fCode (P : Program) (call : CallF) (fuel : Nat) (c : Code) : Fr → Hp → Res :=
  Code.rec (motive := fun _ => Fr → Hp → Res)
    (skip := fun fr h => some (.norm, fr, h))
    (region := fun id ops draw fr h => fNorm (bif draw then fDraw P call id ops fr h else fOps P call ops ops.toList fr h))
    (seq := fun _ _ a b fr h => fThen b (a fr h))
    (cond := fun c _ _ a b fr h => fCond a b fr h (fEv fr c))
    (block := fun id _ a fr h => fBlk id (a fr h))
    (loop := fun _ a fr h => iter a fuel fr h)
    (rangeFunc := fun _ _ _ _ _ _ _ _ => none)
    (exit := fun id fr h => some (.exit id, fr, h))
    (scope := fun _ _ _ _ => none)
    (label := fun _ _ _ => none)
    (goto := fun _ _ _ => none)
    (ret := fun fr h => some (.ret, fr, h))
    (refuse := fun _ _ _ => none) c
theorem fCode_eq (P : Program) (call : CallF) (fuel : Nat) : ∀ (c : Code), fCode P call fuel c = evCode P call (evDraw P call) fuel c
  | .skip => rfl
  | .region id ops draw => by
    funext fr h
    show fNorm (bif draw then fDraw P call id ops fr h else fOps P call ops ops.toList fr h) = evCode P call (evDraw P call) fuel (.region id ops draw) fr h
    rw [fDraw_eq, fOps_eq]
    unfold evCode fNorm
    cases (bif draw then evDraw P call id ops fr h else evOps P call ops ops.toList fr h) <;> rfl
  | .seq a b => by
    funext fr h
    show fThen (fCode P call fuel b) (fCode P call fuel a fr h) = _
    rw [fCode_eq P call fuel a, fCode_eq P call fuel b]
    conv => rhs; unfold evCode
    unfold fThen
    split
    · rename_i h1; rw [h1]
    · rename_i h1
      split
      · rename_i h2; exact absurd h2 (h1 _ _)
      · rfl
  | .cond c a b => by
    funext fr h
    show fCond (fCode P call fuel a) (fCode P call fuel b) fr h (fEv fr c) = _
    rw [fEv_eq, fCode_eq P call fuel a, fCode_eq P call fuel b]
    conv => rhs; unfold evCode
    rfl
  | .block id a => by
    funext fr h
    show fBlk id (fCode P call fuel a fr h) = _
    rw [fCode_eq P call fuel a]
    conv => rhs; unfold evCode
    rfl
  | .loop a => by
    funext fr h
    show iter (fCode P call fuel a) fuel fr h = _
    rw [fCode_eq P call fuel a]
    conv => rhs; unfold evCode
  | .rangeFunc .. => rfl
  | .exit _ => rfl
  | .scope _ => rfl
  | .label _ => rfl
  | .goto _ => rfl
  | .ret => rfl
  | .refuse _ => rfl
def fFin (P : Program) (rs : List ResultVar) : Res → Option (Value × Hp)
  | some (.norm, fr, h) | some (.ret, fr, h) => (evResults P fr h rs).map fun vs => (tupled vs, h)
  | _ => none
def fBody (P : Program) (call : CallF) (fuel : Nat) (args : List Value) (h : Hp) (rs : Array ResultVar) : Option Code → Option (Value × Hp)
  | some c => fFin P rs.toList (fCode P call fuel c (Tr.ofList args 0 .e) h)
  | none => none
def fEnter (P : Program) (call : CallF) (fuel : Nat) (args : List Value) (h : Hp) : Option Func → Option (Value × Hp)
  | some fn => fBody P call fuel args h fn.results fn.body
  | none => none
def fStart (C : Ctx) (call : CallF) (fuel : Nat) (f : FuncId) (args : List Value) (h : Hp) : Option Sum → Option (Value × Hp)
  | some s => s args h
  | none => bif !(C.mask.testBit f) then none else fEnter C.P call fuel args h (C.P.funcs[f]?)
def fCall (C : Ctx) (n : Nat) : CallF :=
  Nat.rec (motive := fun _ => CallF) (fun _ _ _ => none) (fun n call f args h => fStart C call n f args h (C.S f)) n
theorem fCall_eq (C : Ctx) : ∀ n, fCall C n = evCall C n
  | 0 => rfl
  | n + 1 => by
    funext f args h
    show fStart C (fCall C n) n f args h (C.S f) = _
    rw [fCall_eq C n]
    conv => rhs; unfold evCall
    unfold fStart
    cases C.S f with
    | some s => rfl
    | none =>
      simp only
      cases C.mask.testBit f with
      | false => rfl
      | true =>
        simp only [Bool.not_true, cond_false]
        unfold fEnter
        cases C.P.funcs[f]? with
        | none => rfl
        | some fn =>
          simp only
          unfold fBody
          cases fn.body with
          | none => rfl
          | some c => simp only [fCode_eq]; rfl
end
end Go.Ev
namespace Go.Proofs.YtnkfjalhibdjcaaGreatDoor
open Go Go.Ev Go.RowKit
set_option linter.unusedSimpArgs false
set_option linter.unusedVariables false
set_option maxRecDepth 100000
def sumTrue : Sum := fun _ h => some (.bool true, h)
theorem sumTrue_ok {I : Inv} {f : FuncId} (hI : ∀ m h w, I m h w → ∃ mx, w.cell? ⟨0, 0, none⟩ = some (.int .i64 mx)) {n : Nat} (e : (evCall ctx n f [] h0).map (·.1) = some (.bool true)) : ∀ h v h', sumTrue [] h = some (v, h') → ∀ m w args', Rep ctx.P m h w → I m h w → VL m [] args' →
    Calls ctx.P f args'.toArray w fun e w' => ∃ v' m', e = .returned v' ∧ Rep ctx.P m' h' w' ∧ Step m h w m' h' w' ∧ VRel m' v v' := by
  intro h v h' hs m w args' r hi hv
  cases hv
  cases hs
  have hC : CtxOK ctx (From m0 h0 w) (regOk ctx.P) := ctx_ok fun _ _ _ i => (hI m h w hi).imp fun _ e => i.cell0 e
  refine (closed_bool hC ctx_mix e).mono fun e w' he => ?_
  obtain ⟨rfl, hb⟩ := he
  obtain ⟨h1, h2⟩ := r.below hb
  exact ⟨_, m, rfl, h1, h2, .bool _⟩
theorem awake_val : (awakes.all fun f => match ((fCall ctx 300 f [] h0).map (·.1) : Option Value) with
  | some (.bool b) => b
  | _ => false) = true := by kernel_rfl
theorem awake_good : (awakes.all fun f => match Tryz.prog.funcs[f]? with
  | some fn => fn.body.isSome && !(fn.name == "runtime.NumGoroutine")
  | none => false) = true := by kernel_rfl
theorem kon_ok {I : Inv} (hI : ∀ m h w, I m h w → ∃ mx, w.cell? ⟨0, 0, none⟩ = some (.int .i64 mx)) : CtxOK kon I (regOk kon.P) := by
  have base := ctx_ok hI
  refine ⟨base.1, fun f s hs args h v h' e => ?_⟩
  simp only [kon] at hs
  cases hf : awakes.contains f with
  | false => rw [hf] at hs; exact base.2 f s hs args h v h' e
  | true =>
    rw [hf] at hs
    simp only [cond_true, Option.some.injEq] at hs
    subst hs
    have hm : f ∈ awakes := by simpa using hf
    have h1 := List.all_eq_true.1 awake_val f hm
    rw [fCall_eq] at h1
    have h2 := List.all_eq_true.1 awake_good f hm
    unfold sumAwake at e
    split at e
    · refine ⟨?_, fun m w args' r hi hv => ?_⟩
      · split at h2
        · rename_i fn hfn
          simp only [Bool.and_eq_true, Bool.not_eq_true'] at h2
          exact ⟨fn, hfn, h2.2, by have := h2.1; cases hb : fn.body <;> simp_all⟩
        · cases h2
      · refine sumTrue_ok hI (n := 300) ?_ h v h' (by simpa [sumTrue] using e) m w args' r hi hv
        split at h1
        · rename_i b hb
          rw [hb, h1]
        · cases h1
    · cases e
theorem kon_mix : kon.P.follows .mixedOrders = true := ctx_mix
end Go.Proofs.YtnkfjalhibdjcaaGreatDoor
namespace Go.Ev
open Go
set_option linter.unusedSimpArgs false
set_option linter.unusedVariables false
set_option maxRecDepth 100000
noncomputable section
abbrev Lg := List (Value × Value)
def Lg.Ok (l : Lg) : Prop := ∀ p ∈ l, p.1 = p.2
theorem Lg.ok_map {l : Lg} (h : l.map (·.1) = l.map (·.2)) : l.Ok := by
  intro p hp
  induction l with
  | nil => cases hp
  | cons a l ih =>
    simp only [List.map_cons, List.cons.injEq] at h
    rcases List.mem_cons.1 hp with rfl | hp
    · exact h.1
    · exact ih h.2 hp
abbrev LCall := FuncId → List Value → Hp → Lg → Option ((Value × Hp) × Lg)
abbrev LRes := Option ((Ex × Fr × Hp) × Lg)
def LSound {α : Type} (x : Option (α × Lg)) (l : Lg) (y : Option α) : Prop := ∀ r l', x = some (r, l') → l'.Ok → l.Ok ∧ y = some r
def CSound (g : LCall) (c : CallF) : Prop := ∀ f a h l, LSound (g f a h l) l (c f a h)
def lift {α : Type} (l : Lg) : Option α → Option (α × Lg)
  | some q => some (q, l)
  | none => none
theorem lift_sound {α : Type} (l : Lg) (x y : Option α) (h : ∀ a, x = some a → y = some a) : LSound (lift l x) l y := by
  intro r l' e ok
  cases x with
  | none => cases e
  | some a => cases e; exact ⟨ok, h _ rfl⟩
def noC : CallF := fun _ _ _ => none
def gGo (g : LCall) (h : Hp) (vs : Option (List Value)) (l : Lg) : Value → Option ((Value × Hp) × Lg)
  | .func (.func f) first captured => match vs with
    | some vs => g f (first.toList ++ vs ++ captured.toList) h l
    | none => none
  | _ => none
def gCallO (P : Program) (g : LCall) (fr : Fr) (c : Call) (h : Hp) (l : Lg) : Option ((Value × Hp) × Lg) := match c.callee with
  | .value f => match fEv fr f with
    | some v => gGo g h (fEvs fr c.args.toList) l v
    | none => none
  | _ => lift l (evEffCall P noC fr c h)
def gEff (P : Program) (g : LCall) (fr : Fr) (o : Oper) (h : Hp) (l : Lg) : Option ((Value × Hp) × Lg) := match o.op with
  | .call c => gCallO P g fr c h l
  | _ => lift l (fEff P noC fr o h)
def gOp (P : Program) (g : LCall) (fr : Fr) (o : Oper) (h : Hp) (l : Lg) : Option ((Value × Hp) × Lg) := match kindOf P o with
  | .eff => gEff P g fr o h l
  | _ => lift l (fOp P noC fr o h)
section
variable {P : Program} {g : LCall} {c : CallF}
theorem gGo_ok (s : CSound g c) (h : Hp) (vs : Option (List Value)) (l : Lg) (v : Value) : LSound (gGo g h vs l v) l (fGo c h vs v) := by
  intro r l' e ok
  unfold gGo at e
  split at e
  · cases vs with
    | none => cases e
    | some vs => exact s _ _ _ _ r l' e ok
  · cases e
theorem gCallO_ok (s : CSound g c) (fr : Fr) (k : Call) (h : Hp) (l : Lg) : LSound (gCallO P g fr k h l) l (fCallO P c fr k h) := by
  unfold gCallO fCallO
  cases hk : k.callee with
  | value f =>
    simp only
    cases fEv fr f with
    | none => intro r l' e; cases e
    | some v => exact gGo_ok s h _ l v
  | _ =>
    refine lift_sound l _ _ fun a ha => ?_
    simp only
    unfold evEffCall at ha ⊢
    rw [hk] at ha ⊢
    first
    | exact ha
    | (rename_i b; cases b <;> exact ha)
theorem gEff_ok (s : CSound g c) (fr : Fr) (o : Oper) (h : Hp) (l : Lg) : LSound (gEff P g fr o h l) l (fEff P c fr o h) := by
  unfold gEff
  cases ho : o.op with
  | call k =>
    have : fEff P c fr o h = fCallO P c fr k h := by unfold fEff; rw [ho]
    rw [this]
    exact gCallO_ok s fr k h l
  | _ =>
    refine lift_sound l _ _ fun a ha => ?_
    unfold fEff at ha ⊢
    rw [ho] at ha ⊢
    first
    | exact ha
    | (unfold evEff at ha ⊢
       rw [ho] at ha ⊢
       exact ha)
theorem gOp_ok (s : CSound g c) (fr : Fr) (o : Oper) (h : Hp) (l : Lg) : LSound (gOp P g fr o h l) l (fOp P c fr o h) := by
  unfold gOp
  cases hk : kindOf P o with
  | eff =>
    have : fOp P c fr o h = fEff P c fr o h := by unfold fOp; rw [hk]
    rw [this]
    exact gEff_ok s fr o h l
  | _ =>
    refine lift_sound l _ _ fun a ha => ?_
    unfold fOp at ha ⊢
    rw [hk] at ha ⊢
    exact ha
end
def gOps (P : Program) (g : LCall) (ops : Array Oper) : List Oper → Fr → Hp → Lg → Option ((Fr × Hp) × Lg)
  | [], fr, h, l => some ((fr, h), l)
  | o :: rest, fr, h, l => match fWanted ops fr o with
    | some true => match gOp P g fr o h l with
      | some ((v, h), l) => gOps P g ops rest (fPut fr o.dst v) h l
      | none => none
    | some false => gOps P g ops rest (fPut fr o.dst undef) h l
    | none => none
theorem gOps_ok {P : Program} {g : LCall} {c : CallF} (s : CSound g c) (ops : Array Oper) : ∀ (os : List Oper) (fr : Fr) (h : Hp) (l : Lg), LSound (gOps P g ops os fr h l) l (fOps P c ops os fr h)
  | [], fr, h, l => by
    intro r l' e ok
    cases e; exact ⟨ok, rfl⟩
  | o :: rest, fr, h, l => by
    intro r l' e ok
    unfold gOps at e
    unfold fOps
    cases hw : fWanted ops fr o with
    | none => rw [hw] at e; cases e
    | some w =>
      rw [hw] at e
      cases w with
      | false => exact gOps_ok s ops rest _ _ _ r l' e ok
      | true =>
        simp only at e ⊢
        cases hg : gOp P g fr o h l with
        | none => rw [hg] at e; cases e
        | some q =>
          obtain ⟨⟨v, h1⟩, l1⟩ := q
          rw [hg] at e
          obtain ⟨ok1, e1⟩ := gOps_ok s ops rest _ _ _ r l' e ok
          obtain ⟨ok2, e2⟩ := gOp_ok s fr o h l _ _ hg ok1
          rw [e2]
          exact ⟨ok2, e1⟩
def gTrc1 (P : Program) (g : LCall) (ops : Array Oper) (s : Trc) (l : Lg) (j : Nat) (o : Oper) : Option (Trc × Lg) := match fWanted ops s.fr o with
  | none => none
  | some false => bif kindOf P o == .eff then some ({ s with fr := fPut s.fr o.dst undef, done := j :: s.done, bs := (j :: s.done, s.h) :: s.bs }, l) else some ({ s with fr := fPut s.fr o.dst undef }, l)
  | some true => match gOp P g s.fr o s.h l with
    | some (q, l) => lift l (fTrcE (kindOf P o) s j o.dst (some q))
    | none => none
def gTrc (P : Program) (g : LCall) (ops : Array Oper) : List Nat → Trc → Lg → Option (Trc × Lg)
  | [], s, l => some (s, l)
  | j :: js, s, l => match ops[j]? with
    | none => none
    | some o => match gTrc1 P g ops s l j o with
      | some (s, l) => gTrc P g ops js s l
      | none => none
def noteB (P : Program) (ops : Array Oper) (effs : List Nat) (i : Nat) (fr : Fr) (v : Value) : List (List Nat × Hp) → Lg → Option Lg
  | [], l => some l
  | (done, h) :: bs, l => bif !adm (Region.before ops) effs i done then noteB P ops effs i fr v bs l else match ops[i]? with
    | some o => match fRead P fr o h with
      | some u => noteB P ops effs i fr v bs ((u, v) :: l)
      | none => none
    | none => none
def noteR (P : Program) (ops : Array Oper) (effs : List Nat) (bs : List (List Nat × Hp)) : List (Nat × Fr × Value) → Lg → Option Lg
  | [], l => some l
  | (i, fr, v) :: rs, l => match noteB P ops effs i fr v bs l with
    | some l => noteR P ops effs bs rs l
    | none => none
def gDrawE (P : Program) (ops : Array Oper) : Option (Trc × Lg) → Option ((Fr × Hp) × Lg)
  | some (s, l) => match noteR P ops ((List.range ops.size).filter fun j => kindAt P ops j == .eff) s.bs s.rs l with
    | some l => some ((s.fr, s.h), l)
    | none => none
  | none => none
def gDraw (P : Program) (g : LCall) (ops : Array Oper) (fr : Fr) (h : Hp) (l : Lg) : Option ((Fr × Hp) × Lg) :=
  gDrawE P ops (gTrc P g ops (sched P ops) { fr := fr, h := h, done := [], bs := [([], h)], rs := [] } l)
section
variable {P : Program} {g : LCall} {c : CallF}
theorem gTrc1_ok (s : CSound g c) (ops : Array Oper) (t : Trc) (l : Lg) (j : Nat) (o : Oper) : LSound (gTrc1 P g ops t l j o) l (fTrc1 P c ops t j o) := by
  intro r l' e ok
  unfold gTrc1 at e
  unfold fTrc1
  cases hw : fWanted ops t.fr o with
  | none => rw [hw] at e; cases e
  | some w =>
    rw [hw] at e
    cases w with
    | false =>
      simp only at e ⊢
      cases hk : (kindOf P o == .eff)
      · rw [hk] at e; cases e; exact ⟨ok, rfl⟩
      · rw [hk] at e; cases e; exact ⟨ok, rfl⟩
    | true =>
      simp only at e ⊢
      cases hg : gOp P g t.fr o t.h l with
      | none => rw [hg] at e; cases e
      | some q =>
        obtain ⟨q, l1⟩ := q
        rw [hg] at e
        obtain ⟨ok1, e1⟩ := lift_sound l1 _ _ (fun a ha => ha) r l' e ok
        obtain ⟨ok2, e2⟩ := gOp_ok s t.fr o t.h l _ _ hg ok1
        rw [e2]
        exact ⟨ok2, e1⟩
theorem gTrc_ok (s : CSound g c) (ops : Array Oper) : ∀ (js : List Nat) (t : Trc) (l : Lg), LSound (gTrc P g ops js t l) l (fTrc P c ops js t)
  | [], t, l => by
    intro r l' e ok
    cases e; exact ⟨ok, rfl⟩
  | j :: js, t, l => by
    intro r l' e ok
    unfold gTrc at e
    unfold fTrc fTrcStep
    cases ho : ops[j]? with
    | none => rw [ho] at e; cases e
    | some o =>
      rw [ho] at e
      simp only at e ⊢
      cases hg : gTrc1 P g ops t l j o with
      | none => rw [hg] at e; cases e
      | some q =>
        obtain ⟨t1, l1⟩ := q
        rw [hg] at e
        obtain ⟨ok1, e1⟩ := gTrc_ok s ops js t1 l1 r l' e ok
        obtain ⟨ok2, e2⟩ := gTrc1_ok s ops t l j o _ _ hg ok1
        rw [e2]
        exact ⟨ok2, e1⟩
theorem noteB_ok (ops : Array Oper) (effs : List Nat) (i : Nat) (fr : Fr) (v : Value) : ∀ (bs : List (List Nat × Hp)) (l l' : Lg), noteB P ops effs i fr v bs l = some l' → l'.Ok → l.Ok ∧ (bs.all fun (done, h) => !adm (Region.before ops) effs i done ||
    (match ops[i]? with
      | some o => match evReadOrPure P fr o h with
        | some u => veq u v
        | none => false
      | none => false)) = true
  | [], l, l', e, ok => by cases e; exact ⟨ok, rfl⟩
  | (done, h) :: bs, l, l', e, ok => by
    unfold noteB at e
    rw [List.all_cons]
    cases ha : adm (Region.before ops) effs i done with
    | false =>
      rw [ha] at e
      obtain ⟨h1, h2⟩ := noteB_ok ops effs i fr v bs l l' e ok
      refine ⟨h1, ?_⟩
      rw [h2, Bool.and_true]
      show (!adm (Region.before ops) effs i done || _) = true
      rw [ha]; rfl
    | true =>
      rw [ha] at e
      simp only [Bool.not_true, cond_false] at e
      cases ho : ops[i]? with
      | none => rw [ho] at e; cases e
      | some o =>
        rw [ho] at e
        simp only at e
        cases hr : fRead P fr o h with
        | none => rw [hr] at e; cases e
        | some u =>
          rw [hr] at e
          obtain ⟨h1, h2⟩ := noteB_ok ops effs i fr v bs _ l' e ok
          have hu : u = v := h1 (u, v) List.mem_cons_self
          rw [ho] at h2
          refine ⟨fun p hp => h1 p (List.mem_cons_of_mem _ hp), ?_⟩
          rw [fRead_eq] at hr
          simp only [hr, hu, veq_refl, Bool.or_true, Bool.true_and]
          exact h2
theorem noteR_ok (ops : Array Oper) (effs : List Nat) (bs : List (List Nat × Hp)) : ∀ (rs : List (Nat × Fr × Value)) (l l' : Lg), noteR P ops effs bs rs l = some l' → l'.Ok → l.Ok ∧ (rs.all fun (i, fr, v) => bs.all fun (done, h) => !adm (Region.before ops) effs i done ||
    (match ops[i]? with
      | some o => match evReadOrPure P fr o h with
        | some u => veq u v
        | none => false
      | none => false)) = true
  | [], l, l', e, ok => by cases e; exact ⟨ok, rfl⟩
  | (i, fr, v) :: rs, l, l', e, ok => by
    unfold noteR at e
    rw [List.all_cons]
    cases hn : noteB P ops effs i fr v bs l with
    | none => rw [hn] at e; cases e
    | some l1 =>
      rw [hn] at e
      obtain ⟨h1, h2⟩ := noteR_ok ops effs bs rs l1 l' e ok
      obtain ⟨h3, h4⟩ := noteB_ok ops effs i fr v bs l l1 hn h1
      exact ⟨h3, by rw [h2, Bool.and_true]; exact h4⟩
theorem gDraw_ok (s : CSound g c) (id : Nat) (ops : Array Oper) (fr : Fr) (h : Hp) (l : Lg) : LSound (gDraw P g ops fr h l) l (fDraw P c id ops fr h) := by
  intro r l' e ok
  unfold gDraw gDrawE at e
  unfold fDraw
  cases ht : gTrc P g ops (sched P ops) { fr := fr, h := h, done := [], bs := [([], h)], rs := [] } l with
  | none => rw [ht] at e; cases e
  | some q =>
    obtain ⟨t, l1⟩ := q
    rw [ht] at e
    simp only at e
    cases hn : noteR P ops ((List.range ops.size).filter fun j => kindAt P ops j == .eff) t.bs t.rs l1 with
    | none => rw [hn] at e; cases e
    | some l2 =>
      rw [hn] at e
      cases e
      obtain ⟨ok1, e1⟩ := noteR_ok ops _ _ _ _ _ hn ok
      obtain ⟨ok2, e2⟩ := gTrc_ok s ops _ _ _ _ _ ht ok1
      rw [e2]
      refine ⟨ok2, ?_⟩
      have : readsOk P ops ((List.range ops.size).filter fun j => kindAt P ops j == .eff) t = true := e1
      simp only [this, cond_true]
end
def gNorm : Option ((Fr × Hp) × Lg) → LRes
  | some ((fr, h), l) => some ((.norm, fr, h), l)
  | none => none
def gThen (k : Fr → Hp → Lg → LRes) : LRes → LRes
  | some ((.norm, fr, h), l) => k fr h l
  | r => r
def gCond (a b : Fr → Hp → Lg → LRes) (fr : Fr) (h : Hp) (l : Lg) : Option Value → LRes
  | some (.bool true) => a fr h l
  | some (.bool false) => b fr h l
  | _ => none
def gBlk (id : Nat) : LRes → LRes
  | some ((.exit j, fr, h), l) => bif Nat.beq j id then some ((.norm, fr, h), l) else some ((.exit j, fr, h), l)
  | r => r
def gIter (body : Fr → Hp → Lg → LRes) : Nat → Fr → Hp → Lg → LRes
  | 0, _, _, _ => none
  | n + 1, fr, h, l => match body fr h l with
    | some ((.norm, fr, h), l) => gIter body n fr h l
    | r => r
def gCode (P : Program) (g : LCall) (fuel : Nat) (c : Code) : Fr → Hp → Lg → LRes :=
  Code.rec (motive := fun _ => Fr → Hp → Lg → LRes)
    (skip := fun fr h l => some ((.norm, fr, h), l))
    (region := fun _ ops draw fr h l => gNorm (bif draw then gDraw P g ops fr h l else gOps P g ops ops.toList fr h l))
    (seq := fun _ _ a b fr h l => gThen b (a fr h l))
    (cond := fun c _ _ a b fr h l => gCond a b fr h l (fEv fr c))
    (block := fun id _ a fr h l => gBlk id (a fr h l))
    (loop := fun _ a fr h l => gIter a fuel fr h l)
    (rangeFunc := fun _ _ _ _ _ _ _ _ _ => none)
    (exit := fun id fr h l => some ((.exit id, fr, h), l))
    (scope := fun _ _ _ _ _ => none)
    (label := fun _ _ _ _ => none)
    (goto := fun _ _ _ _ => none)
    (ret := fun fr h l => some ((.ret, fr, h), l))
    (refuse := fun _ _ _ _ => none) c
def RSound (a : Fr → Hp → Lg → LRes) (b : Fr → Hp → Res) : Prop := ∀ fr h l, LSound (a fr h l) l (b fr h)
section
variable {P : Program} {g : LCall} {c : CallF}
theorem gNorm_ok {x : Option ((Fr × Hp) × Lg)} {l : Lg} {y : Option (Fr × Hp)} (s : LSound x l y) : LSound (gNorm x) l (fNorm y) := by
  intro r l' e ok
  cases x with
  | none => cases e
  | some q =>
    obtain ⟨⟨fr, h⟩, l1⟩ := q
    cases e
    obtain ⟨h1, h2⟩ := s _ _ rfl ok
    rw [h2]
    exact ⟨h1, rfl⟩
theorem gThen_ok {k : Fr → Hp → Lg → LRes} {k' : Fr → Hp → Res} (sk : RSound k k') {x : LRes} {l : Lg} {y : Res} (s : LSound x l y) : LSound (gThen k x) l (fThen k' y) := by
  intro r l' e ok
  cases x with
  | none => cases e
  | some q =>
    obtain ⟨⟨ex, fr, h⟩, l1⟩ := q
    cases ex with
    | norm =>
      obtain ⟨h1, h2⟩ := sk fr h l1 r l' e ok
      obtain ⟨h3, h4⟩ := s _ _ rfl h1
      rw [h4]
      exact ⟨h3, h2⟩
    | _ =>
      cases e
      obtain ⟨h3, h4⟩ := s _ _ rfl ok
      rw [h4]
      exact ⟨h3, rfl⟩
theorem gCond_ok {a b : Fr → Hp → Lg → LRes} {a' b' : Fr → Hp → Res} (sa : RSound a a') (sb : RSound b b') (fr : Fr) (h : Hp) (l : Lg) (v : Option Value) : LSound (gCond a b fr h l v) l (fCond a' b' fr h v) := by
  intro r l' e ok
  unfold gCond at e
  split at e
  · exact sa fr h l r l' e ok
  · exact sb fr h l r l' e ok
  · cases e
theorem gBlk_ok (id : Nat) {x : LRes} {l : Lg} {y : Res} (s : LSound x l y) : LSound (gBlk id x) l (fBlk id y) := by
  intro r l' e ok
  cases x with
  | none => cases e
  | some q =>
    obtain ⟨⟨ex, fr, h⟩, l1⟩ := q
    cases ex with
    | exit j =>
      have e : (bif Nat.beq j id then some ((Ex.norm, fr, h), l1) else some ((Ex.exit j, fr, h), l1)) = some (r, l') := e
      have el : l1 = l' := by
        cases hj : Nat.beq j id <;> rw [hj] at e <;> cases e <;> rfl
      subst el
      obtain ⟨h3, h4⟩ := s _ _ rfl ok
      rw [h4]
      refine ⟨h3, ?_⟩
      show (bif Nat.beq j id then some (Ex.norm, fr, h) else some (Ex.exit j, fr, h)) = some r
      cases hj : Nat.beq j id <;> rw [hj] at e <;> cases e <;> rfl
    | _ =>
      cases e
      obtain ⟨h3, h4⟩ := s _ _ rfl ok
      rw [h4]
      exact ⟨h3, rfl⟩
theorem gIter_ok {a : Fr → Hp → Lg → LRes} {a' : Fr → Hp → Res} (sa : RSound a a') : ∀ n, RSound (gIter a n) (iter a' n)
  | 0 => by intro fr h l r l' e; cases e
  | n + 1 => by
    intro fr h l r l' e ok
    unfold gIter at e
    unfold iter
    cases hx : a fr h l with
    | none => rw [hx] at e; cases e
    | some q =>
      obtain ⟨⟨ex, fr1, h1⟩, l1⟩ := q
      rw [hx] at e
      cases ex with
      | norm =>
        obtain ⟨h2, h3⟩ := gIter_ok sa n fr1 h1 l1 r l' e ok
        obtain ⟨h4, h5⟩ := sa fr h l _ _ hx h2
        rw [h5]
        exact ⟨h4, h3⟩
      | _ =>
        cases e
        obtain ⟨h4, h5⟩ := sa fr h l _ _ hx ok
        rw [h5]
        exact ⟨h4, rfl⟩
theorem gCode_ok (s : CSound g c) (fuel : Nat) : ∀ k : Code, RSound (gCode P g fuel k) (fCode P c fuel k)
  | .skip => by intro fr h l r l' e ok; cases e; exact ⟨ok, rfl⟩
  | .region id ops draw => by
    intro fr h l
    show LSound (gNorm (bif draw then gDraw P g ops fr h l else gOps P g ops ops.toList fr h l)) l (fNorm (bif draw then fDraw P c id ops fr h else fOps P c ops ops.toList fr h))
    refine gNorm_ok ?_
    cases draw
    · exact gOps_ok s ops _ fr h l
    · exact gDraw_ok s id ops fr h l
  | .seq a b => by
    intro fr h l
    exact gThen_ok (gCode_ok s fuel b) (gCode_ok s fuel a fr h l)
  | .cond v a b => by
    intro fr h l
    exact gCond_ok (gCode_ok s fuel a) (gCode_ok s fuel b) fr h l (fEv fr v)
  | .block id a => by
    intro fr h l
    exact gBlk_ok id (gCode_ok s fuel a fr h l)
  | .loop a => by
    intro fr h l
    exact gIter_ok (gCode_ok s fuel a) fuel fr h l
  | .rangeFunc .. => by intro fr h l r l' e; cases e
  | .exit _ => by intro fr h l r l' e ok; cases e; exact ⟨ok, rfl⟩
  | .scope _ => by intro fr h l r l' e; cases e
  | .label _ => by intro fr h l r l' e; cases e
  | .goto _ => by intro fr h l r l' e; cases e
  | .ret => by intro fr h l r l' e ok; cases e; exact ⟨ok, rfl⟩
  | .refuse _ => by intro fr h l r l' e; cases e
end
def gFin (P : Program) (rs : List ResultVar) : LRes → Option ((Value × Hp) × Lg)
  | some ((.norm, fr, h), l) => lift l ((evResults P fr h rs).map fun vs => (tupled vs, h))
  | some ((.ret, fr, h), l) => lift l ((evResults P fr h rs).map fun vs => (tupled vs, h))
  | _ => none
def gBody (P : Program) (g : LCall) (fuel : Nat) (args : List Value) (h : Hp) (l : Lg) (rs : Array ResultVar) : Option Code → Option ((Value × Hp) × Lg)
  | some c => gFin P rs.toList (gCode P g fuel c (Tr.ofList args 0 .e) h l)
  | none => none
def gEnter (P : Program) (g : LCall) (fuel : Nat) (args : List Value) (h : Hp) (l : Lg) : Option Func → Option ((Value × Hp) × Lg)
  | some fn => gBody P g fuel args h l fn.results fn.body
  | none => none
def gStart (C : Ctx) (g : LCall) (fuel : Nat) (f : FuncId) (args : List Value) (h : Hp) (l : Lg) : Option Sum → Option ((Value × Hp) × Lg)
  | some s => lift l (s args h)
  | none => bif !(C.mask.testBit f) then none else gEnter C.P g fuel args h l (C.P.funcs[f]?)
def gCall (C : Ctx) (n : Nat) : LCall :=
  Nat.rec (motive := fun _ => LCall) (fun _ _ _ _ => none) (fun n g f args h l => gStart C g n f args h l (C.S f)) n
theorem gFin_ok {P : Program} (rs : List ResultVar) {x : LRes} {l : Lg} {y : Res} (s : LSound x l y) : LSound (gFin P rs x) l (fFin P rs y) := by
  intro r l' e ok
  cases x with
  | none => cases e
  | some q =>
    obtain ⟨⟨ex, fr, h⟩, l1⟩ := q
    cases ex with
    | norm =>
      obtain ⟨h1, h2⟩ := lift_sound l1 _ _ (fun a ha => ha) r l' e ok
      obtain ⟨h3, h4⟩ := s _ _ rfl h1
      rw [h4]
      exact ⟨h3, h2⟩
    | ret =>
      obtain ⟨h1, h2⟩ := lift_sound l1 _ _ (fun a ha => ha) r l' e ok
      obtain ⟨h3, h4⟩ := s _ _ rfl h1
      rw [h4]
      exact ⟨h3, h2⟩
    | _ => cases e
theorem gCall_ok (C : Ctx) : ∀ n, CSound (gCall C n) (fCall C n)
  | 0 => by intro f a h l r l' e; cases e
  | n + 1 => by
    intro f args h l
    show LSound (gStart C (gCall C n) n f args h l (C.S f)) l (fStart C (fCall C n) n f args h (C.S f))
    unfold gStart fStart
    cases C.S f with
    | some s => exact lift_sound l _ _ fun a ha => ha
    | none =>
      simp only
      cases (!C.mask.testBit f) with
      | true => intro r l' e; cases e
      | false =>
        simp only [cond_false]
        unfold gEnter fEnter
        cases C.P.funcs[f]? with
        | none => intro r l' e; cases e
        | some fn =>
          simp only
          unfold gBody fBody
          cases fn.body with
          | none => intro r l' e; cases e
          | some k => exact gFin_ok _ (gCode_ok (gCall_ok C n) n k _ h l)
end
end Go.Ev
namespace Go.Proofs.YtnkfjalhibdjcaaGreatDoor
open Go Go.Ev Go.RowKit
set_option linter.unusedSimpArgs false
set_option linter.unusedVariables false
set_option maxRecDepth 1000000
noncomputable def headE : Nat → Code → Code
  | k + 1, .seq a c => .seq a (headE k c)
  | _ + 1, c => c
  | 0, _ => .skip
noncomputable def tailE : Nat → Code → Code
  | k + 1, .seq _ c => tailE k c
  | _ + 1, _ => .skip
  | 0, c => c
noncomputable def runE (n : Nat) (c : Code) (fr : Fr) (h : Hp) : Res := fCode kon.P (fCall kon n) n c fr h
theorem runE_eq (n : Nat) (c : Code) (fr : Fr) (h : Hp) : runE n c fr h = evCode kon.P (evCall kon n) (evDraw kon.P (evCall kon n)) n c fr h := by
  unfold runE; rw [fCode_eq, fCall_eq]
theorem runE_split (n : Nat) : ∀ (k : Nat) (c : Code) (fr : Fr) (h : Hp) (fr' : Fr) (h' : Hp), runE n (headE k c) fr h = some (.norm, fr', h') → runE n c fr h = runE n (tailE k c) fr' h' := by
  intro k
  induction k with
  | zero =>
    intro c fr h fr' h' e
    rw [runE_eq] at e
    have e : some (Ex.norm, fr, h) = some (Ex.norm, fr', h') := e
    cases e; rfl
  | succ k ih =>
    intro c fr h fr' h' e
    cases c with
    | seq a c =>
      rw [runE_eq] at e ⊢
      have e : (match evCode kon.P (evCall kon n) (evDraw kon.P (evCall kon n)) n a fr h with | some (.norm, fr, h) => evCode kon.P (evCall kon n) (evDraw kon.P (evCall kon n)) n (headE k c) fr h | r => r) = some (Ex.norm, fr', h') := e
      show (match evCode kon.P (evCall kon n) (evDraw kon.P (evCall kon n)) n a fr h with | some (.norm, fr, h) => evCode kon.P (evCall kon n) (evDraw kon.P (evCall kon n)) n c fr h | r => r) = _
      split at e
      · rename_i fr1 h1 e1
        show evCode kon.P (evCall kon n) (evDraw kon.P (evCall kon n)) n c fr1 h1 = _
        rw [← runE_eq] at e ⊢
        exact ih c fr1 h1 fr' h' e
      · rename_i r hr
        exact absurd e (hr _ _)
    | skip =>
      rw [runE_eq] at e ⊢; rw [runE_eq]
      exact e
    | _ =>
      rw [runE_eq] at e ⊢; rw [runE_eq]
      exact e
noncomputable def eraseC : Code := match Tryz.f3.body with
  | some c => c
  | none => .skip
noncomputable def frE : Res → Fr
  | some (_, fr, _) => fr
  | none => .e
noncomputable def hpE : Res → Hp
  | some (_, _, h) => h
  | none => h0
noncomputable def erA (n : Int) (b : Bool) (v : Int) : Res := runE 300 (headE 6 eraseC) (Tr.ofList [.int .u8 n, .bool b, .int .u16 v] 0 .e) h0
noncomputable def erZ : Res := erA 0 false 0
noncomputable def erV (k : Int) : Value := match (frE erZ).get 28 with
  | some (.agg a) => .agg ((a.toList.set 2 (.int .i64 k)).toArray)
  | _ => undef
noncomputable def erF (n : Int) (b : Bool) (v x24 x25 x26 k : Int) : Fr :=
  (((((((frE erZ).set 0 (.int .u8 n)).set 1 (.bool b)).set 2 (.int .u16 v)).set 24 (.int .u8 x24)).set 25 (.int .i64 x25)).set 26 (.int .i64 x26)).set 27 (.int .i64 k) |>.set 28 (erV k)
noncomputable def erB : Nat := match (frE erZ).get 9 with
  | some (.pointer (some ⟨b, _, _⟩)) => b
  | _ => 0
noncomputable def erH (k : Int) : Hp := match (hpE erZ).get erB with
  | some (.row cs t st) => (hpE erZ).set erB (.row (cs.set 2 (.int .i64 k)) t st)
  | _ => h0
theorem erase_head (n : Int) (b : Bool) (v : Int) : erA n b v = some (.norm, erF n b v n (IntKind.i64.wrap n) ((IntKind.i64.wrap n).tmod 20) (IntKind.i64.wrap (1 + (IntKind.i64.wrap n).tmod 20)), erH (IntKind.i64.wrap (1 + (IntKind.i64.wrap n).tmod 20))) := by
  kernel_rfl
noncomputable def erR (n : Int) (b : Bool) (v x24 x25 x26 k : Int) : LRes := gCode kon.P (gCall kon 300) 300 (tailE 6 eraseC) (erF n b v x24 x25 x26 k) (erH k) []
noncomputable def outL : LRes → Option (Option (List Value) × List Value)
  | some ((.norm, fr, h), l) => some (evResults kon.P fr h [.tmp 6], l.map (·.1))
  | some ((.ret, fr, h), l) => some (evResults kon.P fr h [.tmp 6], l.map (·.1))
  | _ => none
noncomputable def outR : LRes → Option (Option (List Value) × List Value)
  | some ((_, _, _), l) => some (some [.bool true], l.map (·.2))
  | none => some (none, [])
def eraseP (k : Int) (b : Bool) : Prop := ∀ n v x24 x25 x26, outL (erR n b v x24 x25 x26 k) = outR (erR n b v x24 x25 x26 k)
theorem erase_out {n : Int} {b : Bool} {v x24 x25 x26 k : Int} (e : outL (erR n b v x24 x25 x26 k) = outR (erR n b v x24 x25 x26 k)) :
    ∃ ex fr h, (ex = .norm ∨ ex = .ret) ∧ runE 300 (tailE 6 eraseC) (erF n b v x24 x25 x26 k) (erH k) = some (ex, fr, h) ∧ evResults kon.P fr h [.tmp 6] = some [.bool true] := by
  cases hx : erR n b v x24 x25 x26 k with
  | none => rw [hx] at e; cases e
  | some q =>
    obtain ⟨⟨ex, fr, h⟩, l⟩ := q
    rw [hx] at e
    have hs := gCode_ok (gCall_ok kon 300) 300 (tailE 6 eraseC) (erF n b v x24 x25 x26 k) (erH k) [] (ex, fr, h) l hx
    cases ex with
    | norm =>
      have e : some (evResults kon.P fr h [.tmp 6], l.map (·.1)) = some (some [.bool true], l.map (·.2)) := e
      simp only [Option.some.injEq, Prod.mk.injEq] at e
      exact ⟨_, _, _, .inl rfl, (hs (Lg.ok_map e.2)).2, e.1⟩
    | ret =>
      have e : some (evResults kon.P fr h [.tmp 6], l.map (·.1)) = some (some [.bool true], l.map (·.2)) := e
      simp only [Option.some.injEq, Prod.mk.injEq] at e
      exact ⟨_, _, _, .inr rfl, (hs (Lg.ok_map e.2)).2, e.1⟩
    | _ => cases e
end Go.Proofs.YtnkfjalhibdjcaaGreatDoor
