/- Ev: contracts with a post; branching; the heap's laws; the rules of a step under one name. -/
import Derived.Test.YtncmgiddcefpcaaDoorEvZ
namespace Go.Ev
open Go
set_option linter.unusedSimpArgs false
set_option linter.unusedVariables false
variable {C : Ctx}

/-! ### a contract with a post -/
def Meets (C : Ctx) (f : FuncId) (args : List Value) (h : Hp) (Post : Value → Hp → Prop) : Prop := ∃ v h', Ret C f args h v h' ∧ Post v h'
theorem Meets.mono {f : FuncId} {args : List Value} {h : Hp} {P Q : Value → Hp → Prop} (s : Meets C f args h P) (k : ∀ v h', P v h' → Q v h') : Meets C f args h Q := by
  obtain ⟨v, h', r, p⟩ := s; exact ⟨v, h', r, k _ _ p⟩
theorem callP_meets {f : FuncId} {args : List Value} {h : Hp} {P Q : Value → Hp → Prop} (s : Meets C f args h P) (k : ∀ v h', P v h' → Q v h') : callP C f h Q args := s.mono k
theorem Meets.ret {f : FuncId} {args : List Value} {h h' : Hp} {v : Value} (s : Meets C f args h fun u k => u = v ∧ k = h') : Ret C f args h v h' := by
  obtain ⟨v, h', r, rfl, rfl⟩ := s; exact r
theorem Meets.call {f : FuncId} {args : List Value} {h h' : Hp} {v : Value} (s : Meets C f args h fun u k => u = v ∧ k = h') (Q : Value → Hp → Prop) : callP C f h Q args = Q v h' := callP_of s.ret
/-- What is asked where a body ends. -/
def doneR (Post : Value → Hp → Prop) (h : Hp) (vs : List Value) : Prop := Post (tupled vs) h
def endP (C : Ctx) (rs : List ResultVar) (Post : Value → Hp → Prop) : Ex → Fr → Hp → Prop
  | .exit _, _, _ => False
  | .norm, fr, h => onSome (evResults C.P fr h rs) (doneR Post h)
  | .ret, fr, h => onSome (evResults C.P fr h rs) (doneR Post h)
theorem Meets.mk {f : FuncId} {fn : Func} {c : Code} {rs : List ResultVar} {args : List Value} {h : Hp} {Post : Value → Hp → Prop} (hS : C.S f = none) (hm : C.mask.testBit f = true) (hf : C.P.funcs[f]? = some fn) (hc : fn.body = some c)
    (hr : fn.results.toList = rs) (w : Wp C c (Tr.ofList args 0 .e) h (endP C rs Post)) : Meets C f args h Post := by
  obtain ⟨n, e, fr, h1, h2, h3⟩ := w
  subst hr
  cases e with
  | exit i => exact h3.elim
  | norm =>
    obtain ⟨vs, h4, h5⟩ := h3
    exact ⟨tupled vs, h1, ⟨n + 1, by unfold evCall; rw [hS]; simp only [hm, Bool.not_true, cond_false, hf, hc, h2, h4, Option.map_some]⟩, h5⟩
  | ret =>
    obtain ⟨vs, h4, h5⟩ := h3
    exact ⟨tupled vs, h1, ⟨n + 1, by unfold evCall; rw [hS]; simp only [hm, Bool.not_true, cond_false, hf, hc, h2, h4, Option.map_some]⟩, h5⟩

section
variable {rs : List ResultVar} {Post : Value → Hp → Prop} {fr : Fr} {h : Hp}
theorem endP_ret : endP C rs Post .ret fr h = onSome (evResults C.P fr h rs) (doneR Post h) := rfl
theorem endP_norm : endP C rs Post .norm fr h = onSome (evResults C.P fr h rs) (doneR Post h) := rfl
theorem doneR_eq {vs : List Value} : doneR Post h vs = Post (tupled vs) h := rfl
theorem evResults_nil {P : Program} : evResults P fr h [] = some [] := rfl
theorem evResults_cons {P : Program} {x : ResultVar} {l : List ResultVar} : evResults P fr h (x :: l) = (evResult P fr h x).bind fun v => (evResults P fr h l).bind fun vs => some (v :: vs) := rfl
theorem evResult_tmp {P : Program} {t : Tmp} : evResult P fr h (.tmp t) = fr.get t := rfl
theorem evResult_cell {P : Program} {a : Tmp} {t : TypeId} : evResult P fr h (.cell a t) = (fr.get a).bind fun v => evLoad P t v h := rfl
theorem tupled_one {v : Value} : tupled [v] = v := rfl
theorem tupled_nil : tupled [] = .tuple #[] := rfl
theorem tupled_two {u v : Value} {l : List Value} : tupled (u :: v :: l) = .tuple (u :: v :: l).toArray := rfl
end

/-! ### branching -/
section
variable {fr : Fr} {h : Hp} {Q : Ex → Fr → Hp → Prop} {a b : Code} {c : Bool}
theorem kCond2_by (t : c = true → Wp C a fr h Q) (f : c = false → Wp C b fr h Q) : kCond2 C a b fr h Q c := by cases c; exact f rfl; exact t rfl
theorem kCond2_t (hc : c = true) (t : Wp C a fr h Q) : kCond2 C a b fr h Q c := by subst hc; exact t
theorem kCond2_f (hc : c = false) (t : Wp C b fr h Q) : kCond2 C a b fr h Q c := by subst hc; exact t
theorem kWant_by {ops : Array Oper} {o : Oper} {l : List Oper} {Q : Fr → Hp → Prop} (t : c = true → kWant C ops o l fr h Q true) (f : c = false → kWant C ops o l fr h Q false) : kWant C ops o l fr h Q c := by cases c; exact f rfl; exact t rfl
theorem kPick_by {x y : Operand} {Q : Value → Hp → Prop} (t : c = true → kPick x y fr h Q (.bool true)) (f : c = false → kPick x y fr h Q (.bool false)) : kPick x y fr h Q (.bool c) := by cases c; exact f rfl; exact t rfl
theorem wantT_by {ops : Array Oper} {L : List Nat} {j : Nat} {o : Oper} {s : Trc} {Q : Trc → Prop} (t : c = true → wantT C ops L j o s Q true) (f : c = false → wantT C ops L j o s Q false) : wantT C ops L j o s Q c := by cases c; exact f rfl; exact t rfl
end

theorem ev1_nils {fr : Fr} : ev1 fr (.const (.slice none 0 0)) = some (.slice none 0 0) := rfl
theorem ev1_nilp {fr : Fr} : ev1 fr (.const (.pointer none)) = some (.pointer none) := rfl
theorem ev1_nilm {fr : Fr} : ev1 fr (.const (.map none)) = some (.map none) := rfl
theorem evParts_nil {fr : Fr} : evParts fr [] = some [] := rfl
theorem evParts_cons {fr : Fr} {i : Nat} {x : Operand} {l : List (Nat × Operand)} : evParts fr ((i, x) :: l) = (ev1 fr x).bind fun v => (evParts fr l).bind fun vs => some ((i, v) :: vs) := rfl
def kNot : Value → Option Value
  | .bool b => some (.bool !b)
  | _ => none
theorem kNot_eq {b : Bool} : kNot (.bool b) = some (.bool !b) := rfl
theorem P_not {d : Option Tmp} {ty t : TypeId} {p : String} {af : Array Edge} {g : Option (Nat × Bool)} {fr : Fr} {h : Hp} {Q : Value → Hp → Prop} {x : Operand} : WpP C ⟨d, .unOp .not t x, ty, p, af, g⟩ fr h Q = onSome (ev1 fr x) (kOne kNot h Q) := by
  rw [P_unOp]
  congr 1
  funext v
  simp only [kOne_eq]
  congr 1
  cases v <;> first | rfl | (simp only [kNot]; cases hs : scal _ <;> simp only [cond_true, cond_false]; try rfl)
theorem ba_empty : (⟨#[]⟩ : ByteArray) = ByteArray.empty := rfl
theorem asW_undef {w : Bool} : asW w undef = some false := rfl
theorem scal_int {k : IntKind} {n : Int} : scal (.int k n) = true := rfl
theorem Wp_cut {c : Code} {fr : Fr} {h : Hp} {Q : Ex → Fr → Hp → Prop} (G : Fr → Prop) (hG : G fr) (k : ∀ fr, G fr → Wp C c fr h Q) : Wp C c fr h Q := k fr hG
/-! ### loops -/
def loopP (I : Nat → Fr → Hp → Prop) (k : Nat) (Q : Ex → Fr → Hp → Prop) : Ex → Fr → Hp → Prop
  | .norm, fr, h => ∃ j, j < k ∧ I j fr h
  | e, fr, h => Q e fr h
section
variable {I : Nat → Fr → Hp → Prop} {k : Nat} {Q : Ex → Fr → Hp → Prop} {fr : Fr} {h : Hp} {i : Nat}
theorem loopP_norm : loopP I k Q .norm fr h = ∃ j, j < k ∧ I j fr h := rfl
theorem loopP_exit : loopP I k Q (.exit i) fr h = Q (.exit i) fr h := rfl
theorem loopP_ret : loopP I k Q .ret fr h = Q .ret fr h := rfl
theorem Wp_loop {a : Code} (I : Nat → Fr → Hp → Prop) (k : Nat) (start : I k fr h) (step : ∀ k fr h, I k fr h → Wp C a fr h (loopP I k Q)) : Wp C (.loop a) fr h Q :=
  Wp.loop I (fun k fr h i => (step k fr h i).mono fun e fr h q => by cases e <;> exact q) k start
end

/-- A guard's word, of a bool that is not known. -/
theorem asW_true {b : Bool} : asW true (.bool b) = some b := by cases b <;> rfl
theorem asW_false {b : Bool} : asW false (.bool b) = some !b := by cases b <;> rfl

/-! ### the heap -/
namespace Hp
theorem get_set_self (h : Hp) (b : Nat) (o : Ob) : (h.set b o).get b = some o := by rw [get_set, if_pos rfl]
theorem get_set_ne {h : Hp} {b : Nat} {o : Ob} {c : Nat} (e : c ≠ b) : (h.set b o).get c = h.get c := by rw [get_set, if_neg e]
theorem get_push_self (h : Hp) (o : Ob) : (h.push o).get h.next = some o := by rw [get_push, if_pos rfl]
theorem get_push_ne {h : Hp} {o : Ob} {c : Nat} (e : c ≠ h.next) : (h.push o).get c = h.get c := by rw [get_push, if_neg e]
theorem get_push_lt {h : Hp} {o : Ob} {c : Nat} (e : c < h.next) : (h.push o).get c = h.get c := by rw [get_push, if_neg (by omega)]
end Hp

theorem evLoad_ptr {P : Program} {t : TypeId} {b o : Nat} {h : Hp} : evLoad P t (.pointer (some ⟨b, o, none⟩)) h = (rowOf h b).bind fun cs => evPart P t cs o := rfl
theorem rowOf_rw {h : Hp} {b : Nat} {cs : List Value} {e : TypeId} {x : Nat} {l : List Nat} (g : h.get b = some (.row cs e (.rw x l))) : rowOf h b = some cs := by unfold rowOf; rw [g]
theorem rowOf_ro {h : Hp} {b : Nat} {cs : List Value} {e : TypeId} (g : h.get b = some (.row cs e .ro)) : rowOf h b = some cs := by unfold rowOf; rw [g]
theorem rowOf_eq {h k : Hp} {b : Nat} (e : h.get b = k.get b) : rowOf h b = rowOf k b := by unfold rowOf; rw [e]
theorem rowOf_get {h : Hp} {b : Nat} {cs : List Value} {e : TypeId} {st : St} (g : h.get b = some (.row cs e st)) (d : notDead st) : rowOf h b = some cs := by
  unfold rowOf; rw [g]; cases st <;> first | rfl | exact d.elim
theorem rowOf_lt {P : Program} {m : Mp} {h : Hp} {w : World} (r : Rep P m h w) {b : Nat} {cs : List Value} (e : rowOf h b = some cs) : b < h.next := by
  refine Decidable.byContradiction fun hn => ?_
  have := (r.frs b (by omega)).1
  unfold rowOf at e; rw [this] at e; cases e
theorem evPart_cell {P : Program} {t : TypeId} {cs : List Value} {o : Nat} (ht : tAgg P t = some false) : evPart P t cs o = cs[o]? := by unfold evPart; rw [ht]
theorem evPart_agg {P : Program} {t : TypeId} {cs : List Value} {o n : Nat} (ht : tAgg P t = some true) (hn : tSize P t = some n) : evPart P t cs o = bif decide (o + n ≤ cs.length) then some (.agg ((cs.drop o).take n).toArray) else none := by
  unfold evPart; rw [ht, hn]; rfl

/-- Nothing that was there has changed. -/
def Keep (h h' : Hp) : Prop := h.next ≤ h'.next ∧ ∀ b, b < h.next → h'.get b = h.get b
theorem Keep.refl (h : Hp) : Keep h h := ⟨Nat.le_refl _, fun _ _ => rfl⟩
theorem Keep.trans {a b c : Hp} (x : Keep a b) (y : Keep b c) : Keep a c := ⟨Nat.le_trans x.1 y.1, fun k hk => (y.2 k (Nat.lt_of_lt_of_le hk x.1)).trans (x.2 k hk)⟩
theorem Keep.push (h : Hp) (o : Ob) : Keep h (h.push o) := ⟨Nat.le_succ _, fun _ hb => Hp.get_push_lt hb⟩
theorem Keep.set {h h' : Hp} (k : Keep h h') {b : Nat} {o : Ob} (hb : h.next ≤ b) : Keep h (h'.set b o) := ⟨k.1, fun c hc => by rw [Hp.get_set_ne (by omega)]; exact k.2 c hc⟩
theorem Keep.pushed {h h' : Hp} (k : Keep h h') {o : Ob} : Keep h (h'.push o) := k.trans (Keep.push _ _)

/-! ### the rules of a step -/
theorem evr : type_of% @Wp_seq ∧ type_of% @Wp_region ∧ type_of% @WpO_cons' ∧ type_of% @WpO_nil' ∧ type_of% @wanted_none ∧ type_of% @wanted_some ∧ type_of% @kWant_true ∧ type_of% @kWant_false ∧
    type_of% @P_move ∧ type_of% @P_assign ∧ type_of% @P_pick ∧ type_of% @kPick_true ∧ type_of% @kPick_false ∧ type_of% @kTwo_eq ∧ type_of% @kTwo2_eq ∧ type_of% @kOne_eq ∧ type_of% @at_eq ∧ type_of% @ev1_bool ∧ type_of% @ev1_tmp ∧ type_of% @ev1_int ∧ type_of% @ev1_string ∧
    type_of% @stepP_some ∧ type_of% @stepP_none ∧ type_of% @doneP_eq ∧ type_of% @nextP_ret ∧ type_of% @nextP_exit ∧ type_of% @outP_norm ∧ type_of% @outP_ret ∧ type_of% @outP_same ∧ type_of% @Wp_cond ∧ type_of% @kCond_eq ∧ type_of% @kCond2_true ∧ type_of% @kCond2_false ∧
    type_of% @asW_true ∧ type_of% @asW_false ∧ type_of% @asW_tuple ∧ type_of% @Wp_ret ∧ type_of% @Wp_skip ∧ type_of% @Wp_exit ∧ type_of% @Wp_block ∧ type_of% @P_index ∧ type_of% @P_indexAddr ∧ type_of% @P_not ∧ type_of% @kNot_eq ∧ type_of% @scal_int ∧ type_of% @P_field ∧ type_of% @P_fieldAddr ∧ type_of% @P_load ∧ type_of% @P_call ∧
    type_of% @P_nilCheck ∧ type_of% @P_extract ∧ type_of% @kExtract_eq ∧ type_of% @P_build ∧ type_of% @kBuild_eq ∧ type_of% @P_box ∧ type_of% @kBox_agg ∧ type_of% @kBox_int ∧ type_of% @kBox_bool ∧ type_of% @kBox_string ∧ type_of% @kBox_pointer ∧ type_of% @kBox_slice ∧ type_of% @P_store ∧ type_of% @kStore_eq ∧ type_of% @kStore2_eq ∧ type_of% @kHp_eq ∧ type_of% @P_lookup ∧ type_of% @P_mapUpdate ∧ type_of% @kMu_eq ∧ type_of% @kMu2_eq ∧ type_of% @kMu3_eq ∧ type_of% @P_delete ∧ type_of% @kDel_eq ∧ type_of% @kDel2_eq ∧
    type_of% @kNew_eq ∧ type_of% @kPair_eq ∧ type_of% @kApp_eq ∧ type_of% @kApp2_eq ∧ type_of% @kCopy_eq ∧ type_of% @kCopy2_eq ∧ type_of% @evs_nil ∧ type_of% @evs_cons ∧ type_of% @ev1_func ∧
    type_of% @endP_ret ∧ type_of% @endP_norm ∧ type_of% @doneR_eq ∧ type_of% @evResults_nil ∧ type_of% @evResults_cons ∧ type_of% @evResult_tmp ∧ type_of% @evResult_cell ∧ type_of% @tupled_one ∧ type_of% @tupled_nil ∧ type_of% @tupled_two ∧ type_of% @loopP_norm ∧ type_of% @loopP_exit ∧ type_of% @loopP_ret ∧ type_of% @ev1_nils ∧ type_of% @ev1_nilp ∧ type_of% @ev1_nilm ∧ type_of% @evParts_nil ∧ type_of% @evParts_cons ∧ type_of% @ba_empty ∧ type_of% @asW_undef :=
  ⟨@Wp_seq, @Wp_region, @WpO_cons', @WpO_nil', @wanted_none, @wanted_some, @kWant_true, @kWant_false, @P_move, @P_assign, @P_pick, @kPick_true, @kPick_false, @kTwo_eq, @kTwo2_eq, @kOne_eq, @at_eq, @ev1_bool, @ev1_tmp, @ev1_int, @ev1_string,
   @stepP_some, @stepP_none, @doneP_eq, @nextP_ret, @nextP_exit, @outP_norm, @outP_ret, @outP_same, @Wp_cond, @kCond_eq, @kCond2_true, @kCond2_false, @asW_true, @asW_false, @asW_tuple, @Wp_ret, @Wp_skip, @Wp_exit, @Wp_block, @P_index, @P_indexAddr, @P_not, @kNot_eq, @scal_int, @P_field, @P_fieldAddr, @P_load, @P_call,
   @P_nilCheck, @P_extract, @kExtract_eq, @P_build, @kBuild_eq, @P_box, @kBox_agg, @kBox_int, @kBox_bool, @kBox_string, @kBox_pointer, @kBox_slice, @P_store, @kStore_eq, @kStore2_eq, @kHp_eq, @P_lookup, @P_mapUpdate, @kMu_eq, @kMu2_eq, @kMu3_eq, @P_delete, @kDel_eq, @kDel2_eq, @kNew_eq, @kPair_eq, @kApp_eq, @kApp2_eq, @kCopy_eq, @kCopy2_eq, @evs_nil, @evs_cons, @ev1_func,
   @endP_ret, @endP_norm, @doneR_eq, @evResults_nil, @evResults_cons, @evResult_tmp, @evResult_cell, @tupled_one, @tupled_nil, @tupled_two, @loopP_norm, @loopP_exit, @loopP_ret, @ev1_nils, @ev1_nilp, @ev1_nilm, @evParts_nil, @evParts_cons, @ba_empty, @asW_undef⟩
end Go.Ev
