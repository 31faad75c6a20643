/- The tree: its blocks, and what its inner functions do to them. -/
import Derived.Test.YtncmgiddcefpcaaGreatDoorConT
import Derived.Test.YtncmgiddcefpcaaGreatDoorEvM4
namespace Go.Proofs.YtncmgiddcefpcaaGreatDoor
open Go Go.Ev Go.Con
set_option linter.unusedSimpArgs false
set_option linter.unusedVariables false
set_option maxRecDepth 100000

def ptrV (b : Nat) : Value := .pointer (some ⟨b, 0, none⟩)
def optP : Option Nat → Value
  | none => .pointer none
  | some b => ptrV b
def intV (n : Int) : Value := .int .i64 n
def bnC (b : Bn) (sl : Value) : List Value := [.int .i64 b.kind, .int .i64 b.uid, .int .i64 b.dir, .string b.link, .bool b.object, sl, .int .i64 b.b.r1, .int .i64 b.b.r2, .int .i64 b.b.r3, .int .i64 b.b.g]
/-- A node: a branch, its home, how many names it has. -/
structure Nd where
  b : Bn
  home : Int
  many : Int
def ndC (x : Nd) (sl : Value) : List Value := [.int .i64 x.b.kind, .int .i64 x.b.uid, .int .i64 x.b.dir, .string x.b.link, .bool x.b.object, sl, .int .i64 x.b.b.r1, .int .i64 x.b.b.r2, .int .i64 x.b.b.r3, .int .i64 x.b.b.g, .int .i64 x.home, .int .i64 x.many]
/-- The tree's own blocks. -/
structure CoreAt (h : Hp) (bt bl bd bu : Nat) (fL : Int × ByteArray → Option Nat) (fD : Int → Option Int) (fU : Int → Option Nat) (nx : Int) : Prop where
  row : h.get bt = some (.row [.map (some bl), .map (some bd), .map (some bu), .int .i64 nx] 92 (.rw 0 []))
  l : MapIs keyK ptrV h bl fL
  d : MapIs keyI intV h bd fD
  u : MapIs keyI ptrV h bu fU
  ld : bl ≠ bd
  lu : bl ≠ bu
  du : bd ≠ bu
def NodeAt (h : Hp) (F : Nat → Prop) (b : Nat) (x : Nd) : Prop := ∃ sl, b < h.next ∧ h.get b = some (.row (ndC x sl) 110 (.rw 0 [])) ∧ TmTy h F sl x.b.acl

section
variable {h : Hp} {bt bl bd bu : Nat} {fL : Int × ByteArray → Option Nat} {fD : Int → Option Int} {fU : Int → Option Nat} {nx : Int}
theorem CoreAt.lookD (c : CoreAt h bt bl bd bu fL fD fU nx) (d : Int) (f : Bool) : evLookup kon.P 89 (.map (some bd)) (.int .i64 d) f h = some (match fD d with
    | some n => bif f then .tuple #[.int .i64 n, .bool true] else .int .i64 n
    | none => bif f then .tuple #[.int .i64 0, .bool false] else .int .i64 0) := by
  have := c.d.look (kt := 3) (et := 3) (t := 89) (P := kon.P) (by kernel_rfl) (keyI_ok Tryz.underlying3) (z := .int .i64 0) (by kernel_rfl) rfl d f
  unfold keyI at this
  rw [this]
  cases fD d <;> rfl
theorem CoreAt.lookL (c : CoreAt h bt bl bd bu fL fD fU nx) (d : Int) (s : ByteArray) : evLookup kon.P 88 (.map (some bl)) (.agg #[.int .i64 d, .string s]) false h = some (optP (fL (d, s))) := by
  have := c.l.look (kt := 149) (et := 106) (t := 88) (P := kon.P) (by kernel_rfl) keyK_ok (z := .pointer none) (by kernel_rfl) rfl (d, s) false
  unfold keyK at this
  rw [this]
  cases fL (d, s) <;> rfl
theorem CoreAt.lookU (c : CoreAt h bt bl bd bu fL fD fU nx) (u : Int) : evLookup kon.P 90 (.map (some bu)) (.int .i64 u) false h = some (optP (fU u)) := by
  have := c.u.look (kt := 3) (et := 106) (t := 90) (P := kon.P) (by kernel_rfl) (keyI_ok Tryz.underlying3) (z := .pointer none) (by kernel_rfl) rfl u false
  unfold keyI at this
  rw [this]
  cases fU u <;> rfl

theorem is_spec (c : CoreAt h bt bl bd bu fL fD fU nx) (d : Int) : Meets kon 49 [ptrV bt, .int .i64 d] h fun v h' => v = .bool (fD d).isSome ∧ h' = h := by
  unfold ptrV
  refine Meets.mk rfl (by kernel_rfl) Tryz.func49 rfl (congrArg Array.toList Tryz.results49) ?_
  have hr := rowOf_rw c.row
  have e1 := c.lookD d true
  cases hd : fD d with
  | none =>
    rw [hd] at e1
    simp only [cond_true] at e1
    simp only [evr, nextP_norm, evd, evq, beq_self_eq_true, cond_true, cond_false, reduceIte, Nat.reduceEqDiff, Nat.reduceAdd, Int.reduceBNe, Int.reduceBEq, Int.reduceLT, Int.reduceLE, Int.reduceEq, evh, evp, Nat.reduceLeDiff, Nat.reduceSub, Nat.reduceBEq, typs, hr, e1]
    rfl
  | some n =>
    rw [hd] at e1
    simp only [cond_true] at e1
    simp only [evr, nextP_norm, evd, evq, beq_self_eq_true, cond_true, cond_false, reduceIte, Nat.reduceEqDiff, Nat.reduceAdd, Int.reduceBNe, Int.reduceBEq, Int.reduceLT, Int.reduceLE, Int.reduceEq, evh, evp, Nat.reduceLeDiff, Nat.reduceSub, Nat.reduceBEq, typs, hr, e1]
    rfl
theorem none_spec (b : Nat) (h : Hp) : Meets kon 50 [ptrV b] h fun v h' => v = .int .i64 4 ∧ h' = h := by
  unfold ptrV
  refine Meets.mk rfl (by kernel_rfl) Tryz.func50 rfl (congrArg Array.toList Tryz.results50) ?_
  simp only [evr, nextP_norm, evd, evq, beq_self_eq_true, cond_true, cond_false, reduceIte, Nat.reduceEqDiff, Nat.reduceAdd, Int.reduceBNe, Int.reduceBEq, Int.reduceLT, Int.reduceLE, Int.reduceEq, evh, evp, Nat.reduceLeDiff, Nat.reduceSub, Nat.reduceBEq, typs]
theorem get_spec (c : CoreAt h bt bl bd bu fL fD fU nx) (d : Int) (s : ByteArray) : Meets kon 52 [ptrV bt, .int .i64 d, .string s] h fun v h' => v = optP (fL (d, s)) ∧ h' = h := by
  unfold ptrV
  refine Meets.mk rfl (by kernel_rfl) Tryz.func52 rfl (congrArg Array.toList Tryz.results52) ?_
  have hr := rowOf_rw c.row
  have e1 := c.lookL d s
  simp only [evr, nextP_norm, evd, evq, beq_self_eq_true, cond_true, cond_false, reduceIte, Nat.reduceEqDiff, Nat.reduceAdd, Int.reduceBNe, Int.reduceBEq, Int.reduceLT, Int.reduceLE, Int.reduceEq, evh, evp, Nat.reduceLeDiff, Nat.reduceSub, Nat.reduceBEq, typs, hr, e1]

theorem get_ne {h : Hp} {a b : Nat} {x y : Ob} (ha : h.get a = some x) (hb : h.get b = some y) (hn : x ≠ y) : a ≠ b := by
  rintro rfl; rw [ha] at hb; exact hn (Option.some.inj hb)
theorem CoreAt.bt_bl (c : CoreAt h bt bl bd bu fL fD fU nx) : bt ≠ bl := by obtain ⟨es, ck, hg⟩ := c.l.get; exact get_ne c.row hg (by simp)
theorem CoreAt.bt_bd (c : CoreAt h bt bl bd bu fL fD fU nx) : bt ≠ bd := by obtain ⟨es, ck, hg⟩ := c.d.get; exact get_ne c.row hg (by simp)
theorem CoreAt.bt_bu (c : CoreAt h bt bl bd bu fL fD fU nx) : bt ≠ bu := by obtain ⟨es, ck, hg⟩ := c.u.get; exact get_ne c.row hg (by simp)
theorem CoreAt.row_ne (c : CoreAt h bt bl bd bu fL fD fU nx) {n : Nat} {cs : List Value} {e : TypeId} {st : St} (hn : h.get n = some (.row cs e st)) : n ≠ bl ∧ n ≠ bd ∧ n ≠ bu := by
  obtain ⟨es, ck, h1⟩ := c.l.get
  obtain ⟨es2, ck2, h2⟩ := c.d.get
  obtain ⟨es3, ck3, h3⟩ := c.u.get
  exact ⟨get_ne hn h1 (by simp), get_ne hn h2 (by simp), get_ne hn h3 (by simp)⟩
theorem CoreAt.node_ne (c : CoreAt h bt bl bd bu fL fD fU nx) {n : Nat} {cs : List Value} {st : St} (hn : h.get n = some (.row cs 110 st)) : n ≠ bt :=
  get_ne hn c.row (fun e => by simp at e)

theorem put_spec (c : CoreAt h bt bl bd bu fL fD fU nx) {n : Nat} {x : Nd} {sl : Value} (hn : h.get n = some (.row (ndC x sl) 110 (.rw 0 []))) (d : Int) (s : ByteArray)
    (b1 : -4000000000000000000 ≤ (fD d).getD 0) (b2 : (fD d).getD 0 ≤ 4000000000000000000) (b3 : -4000000000000000000 ≤ x.many) (b4 : x.many ≤ 4000000000000000000) :
    Meets kon 54 [ptrV bt, .int .i64 d, .string s, ptrV n] h fun v h' => v = .tuple #[] ∧ CoreAt h' bt bl bd bu (upd fL (d, s) (some n)) (upd fD d (some ((fD d).getD 0 + 1))) fU nx ∧
      h'.get n = some (.row (ndC { x with many := x.many + 1 } sl) 110 (.rw 0 [])) ∧ h'.next = h.next ∧ ∀ k, k ≠ bl → k ≠ bd → k ≠ n → h'.get k = h.get k := by
  obtain ⟨nl, nd, nu⟩ := c.row_ne hn
  have nt := c.node_ne hn
  obtain ⟨h1, e1, m1, n1, s1⟩ := c.l.put (t := 88) (kt := 149) (et := 106) (P := kon.P) (by kernel_rfl) keyK_ok (d, s) n
  have md1 : MapIs keyI intV h1 bd fD := c.d.eq (s1 bd (Ne.symm c.ld))
  obtain ⟨h2, e2, m2, n2, s2⟩ := md1.put (t := 89) (kt := 3) (et := 3) (P := kon.P) (by kernel_rfl) (keyI_ok Tryz.underlying3) d ((fD d).getD 0 + 1)
  have c1 : CoreAt h1 bt bl bd bu (upd fL (d, s) (some n)) fD fU nx := ⟨by rw [s1 bt c.bt_bl]; exact c.row, m1, md1, c.u.eq (s1 bu (Ne.symm c.lu)), c.ld, c.lu, c.du⟩
  have c2 : CoreAt h2 bt bl bd bu (upd fL (d, s) (some n)) (upd fD d (some ((fD d).getD 0 + 1))) fU nx := ⟨by rw [s2 bt c1.bt_bd]; exact c1.row, c1.l.eq (s2 bl c.ld), m2, c1.u.eq (s2 bu (Ne.symm c.du)), c.ld, c.lu, c.du⟩
  have hn2 : h2.get n = some (.row (ndC x sl) 110 (.rw 0 [])) := by rw [s2 n nd, s1 n nl]; exact hn
  have r0 := rowOf_rw c.row
  have r1 := rowOf_rw c1.row
  have r2 := rowOf_rw hn2
  have l1 : evLookup kon.P 89 (.map (some bd)) (.int .i64 d) false h1 = some (.int .i64 ((fD d).getD 0)) := by
    rw [c1.lookD d false]; cases fD d <;> rfl
  have w1 := wrap64 (x := (fD d).getD 0 + 1) (by omega) (by omega)
  have w2 := wrap64 (x := x.many + 1) (by omega) (by omega)
  unfold keyK ptrV at e1
  unfold keyI intV at e2
  unfold ptrV
  unfold ndC at hn2 r2
  refine Meets.mk rfl (by kernel_rfl) Tryz.func54 rfl (congrArg Array.toList Tryz.results54) ?_
  simp only [evr, nextP_norm, evd, evq, beq_self_eq_true, cond_true, cond_false, reduceIte, Nat.reduceEqDiff, Nat.reduceAdd, Int.reduceBNe, Int.reduceBEq, Int.reduceLT, Int.reduceLE, Int.reduceEq, evh, evp, Nat.reduceLeDiff, Nat.reduceSub, Nat.reduceBEq, typs, r0, e1, r1, l1, w1, e2, r2, w2, hn2]
  refine ⟨⟨by rw [Hp.get_set_ne (Ne.symm nt)]; exact c2.row, c2.l.eq (Hp.get_set_ne (Ne.symm nl)), c2.d.eq (Hp.get_set_ne (Ne.symm nd)), c2.u.eq (Hp.get_set_ne (Ne.symm nu)), c.ld, c.lu, c.du⟩, ?_, ?_, fun k k1 k2 k3 => ?_⟩
  · rfl
  · rw [n2, n1]
  · rw [if_neg k3, s2 k k2, s1 k k1]

theorem take_spec (c : CoreAt h bt bl bd bu fL fD fU nx) {n : Nat} {x : Nd} {sl : Value} (hn : h.get n = some (.row (ndC x sl) 110 (.rw 0 []))) (d : Int) (s : ByteArray) (hf : fL (d, s) = some n)
    (b1 : -4000000000000000000 ≤ (fD d).getD 0) (b2 : (fD d).getD 0 ≤ 4000000000000000000) (b3 : -4000000000000000000 ≤ x.many) (b4 : x.many ≤ 4000000000000000000) :
    Meets kon 74 [ptrV bt, .int .i64 d, .string s] h fun v h' => v = .tuple #[] ∧ CoreAt h' bt bl bd bu (upd fL (d, s) none) (upd fD d (some ((fD d).getD 0 - 1))) fU nx ∧
      h'.get n = some (.row (ndC { x with many := x.many - 1 } sl) 110 (.rw 0 [])) ∧ h'.next = h.next ∧ ∀ k, k ≠ bl → k ≠ bd → k ≠ n → h'.get k = h.get k := by
  obtain ⟨nl, nd, nu⟩ := c.row_ne hn
  have nt := c.node_ne hn
  have l0 := c.lookL d s
  rw [hf] at l0
  unfold optP ptrV at l0
  generalize hg : h.set n (.row (ndC { x with many := x.many - 1 } sl) 110 (.rw 0 [])) = h1
  have s1 : ∀ k, k ≠ n → h1.get k = h.get k := fun k hk => by rw [← hg]; exact Hp.get_set_ne hk
  have hn1 : h1.get n = some (.row (ndC { x with many := x.many - 1 } sl) 110 (.rw 0 [])) := by rw [← hg]; exact Hp.get_set_self _ _ _
  have x1 : h1.next = h.next := by rw [← hg]; rfl
  have c1 : CoreAt h1 bt bl bd bu fL fD fU nx := ⟨by rw [s1 bt (Ne.symm nt)]; exact c.row, c.l.eq (s1 bl (Ne.symm nl)), c.d.eq (s1 bd (Ne.symm nd)), c.u.eq (s1 bu (Ne.symm nu)), c.ld, c.lu, c.du⟩
  obtain ⟨h2, e2, m2, n2, s2⟩ := c1.l.del (t := 88) (kt := 149) (et := 106) (P := kon.P) (by kernel_rfl) keyK_ok (d, s)
  have c2 : CoreAt h2 bt bl bd bu (upd fL (d, s) none) fD fU nx := ⟨by rw [s2 bt c1.bt_bl]; exact c1.row, m2, c1.d.eq (s2 bd (Ne.symm c.ld)), c1.u.eq (s2 bu (Ne.symm c.lu)), c.ld, c.lu, c.du⟩
  obtain ⟨h3, e3, m3, n3, s3⟩ := c2.d.put (t := 89) (kt := 3) (et := 3) (P := kon.P) (by kernel_rfl) (keyI_ok Tryz.underlying3) d ((fD d).getD 0 - 1)
  have r0 := rowOf_rw c.row
  have r1 := rowOf_rw hn
  have r2 := rowOf_rw c1.row
  have r3 := rowOf_rw c2.row
  have l1 : evLookup kon.P 89 (.map (some bd)) (.int .i64 d) false h2 = some (.int .i64 ((fD d).getD 0)) := by
    rw [c2.lookD d false]; cases fD d <;> rfl
  have w1 := wrap64 (x := (fD d).getD 0 - 1) (by omega) (by omega)
  have w2 := wrap64 (x := x.many - 1) (by omega) (by omega)
  unfold keyK at e2
  unfold keyI intV at e3
  unfold ptrV
  have hn' := hn
  unfold ndC at hn' r1 hg
  refine Meets.mk rfl (by kernel_rfl) Tryz.func74 rfl (congrArg Array.toList Tryz.results74) ?_
  simp only [evr, nextP_norm, evd, evq, beq_self_eq_true, cond_true, cond_false, reduceIte, Nat.reduceEqDiff, Nat.reduceAdd, Int.reduceBNe, Int.reduceBEq, Int.reduceLT, Int.reduceLE, Int.reduceEq, evh, evp, Nat.reduceLeDiff, Nat.reduceSub, Nat.reduceBEq, typs, r0, l0, r1, w2, hn', hg, r2, e2, r3, l1, w1, e3]
  refine ⟨⟨by rw [s3 bt c2.bt_bd]; exact c2.row, c2.l.eq (s3 bl c.ld), m3, c2.u.eq (s3 bu (Ne.symm c.du)), c.ld, c.lu, c.du⟩, ?_, ?_, fun k k1 k2 k3 => ?_⟩
  · rw [s3 n nd, s2 n nl]; exact hn1
  · rw [n3, n2, x1]
  · rw [s3 k k2, s2 k k1, s1 k k3]

/-- A branch that is handed out: its cells, its list a new one. -/
def outV (b : Bn) (sl : Value) : Value := .tuple #[.agg (bnC b sl).toArray, .bool true]
def noneV : Value := .tuple #[.agg #[.int .i64 0, .int .i64 0, .int .i64 0, .string ByteArray.empty, .bool false, .slice none 0 0, .int .i64 0, .int .i64 0, .int .i64 0, .int .i64 0], .bool false]
def OutP (o : Option Bn) (h : Hp) (v : Value) (h' : Hp) : Prop := Keep h h' ∧ match o with
  | none => v = noneV
  | some b => ∃ sl, v = outV b sl ∧ TmTy h' (fun k => h.next ≤ k) sl b.acl
theorem out_nil (h : Hp) : Meets kon 75 [.pointer none] h (OutP none h) := by
  refine Meets.mk rfl (by kernel_rfl) Tryz.func75 rfl (congrArg Array.toList Tryz.results75) ?_
  repeat' (first | simp only [evr, nextP_norm, evd, evq, beq_self_eq_true, cond_true, cond_false, reduceIte, Nat.reduceEqDiff, Nat.reduceAdd, Int.reduceBNe, Int.reduceBEq, Int.reduceLT, Int.reduceLE, Int.reduceEq, evh, evp, Nat.reduceLeDiff, Nat.reduceSub, Nat.reduceBEq, typs] | refine kCond2_by (fun hc => ?_) (fun hc => ?_) <;> try simp only [hc] | refine kPick_by (fun hc => ?_) (fun hc => ?_) <;> try simp only [hc] | refine kWant_by (fun hc => ?_) (fun hc => ?_) <;> try simp only [hc])
  exact ⟨(Keep.push _ _).set (Nat.le_refl _), rfl⟩
theorem out_spec {F : Nat → Prop} {n : Nat} {x : Nd} (hN : NodeAt h F n x) (hl : x.b.acl.length ≤ 1000000000) : Meets kon 75 [ptrV n] h (OutP (some x.b) h) := by
  obtain ⟨sl, hlt, hn, hs⟩ := hN
  have r1 := rowOf_rw hn
  have e0 : (n = h.next) = False := eq_false (by omega)
  have e1 : (n = h.next + 1) = False := eq_false (by omega)
  unfold ndC at r1
  unfold ptrV
  refine Meets.mk rfl (by kernel_rfl) Tryz.func75 rfl (congrArg Array.toList Tryz.results75) ?_
  have hsc := hs.isCell
  repeat' (first | simp only [evr, nextP_norm, evd, evq, beq_self_eq_true, cond_true, cond_false, reduceIte, Nat.reduceEqDiff, Nat.reduceAdd, Int.reduceBNe, Int.reduceBEq, Int.reduceLT, Int.reduceLE, Int.reduceEq, evh, evp, Nat.reduceLeDiff, Nat.reduceSub, Nat.reduceBEq, typs, r1, e0, e1, if_false, hsc] | refine kCond2_by (fun hc => ?_) (fun hc => ?_) <;> try simp only [hc] | refine kPick_by (fun hc => ?_) (fun hc => ?_) <;> try simp only [hc] | refine kWant_by (fun hc => ?_) (fun hc => ?_) <;> try simp only [hc])
  generalize hh : Hp.set _ (h.next + 1) _ = H
  have g1 : H.get (h.next + 1) = some (.row (bnC x.b sl) 40 (.rw 0 [])) := by rw [← hh]; exact Hp.get_set_self _ _ _
  have hk : Keep h H := by rw [← hh]; exact ((Keep.push _ _).pushed).set (Nat.le_succ _)
  have g0 : ∃ zs, H.get h.next = some (.row zs 40 (.rw 0 [])) ∧ zs.length = 10 := by
    refine ⟨_, by rw [← hh, Hp.get_set_ne (by omega), Hp.get_push_lt (Nat.lt_succ_self _)]; exact Hp.get_push_self _ _, rfl⟩
  have hx : H.next = h.next + 2 := by rw [← hh]; rfl
  obtain ⟨zs, g0, hz⟩ := g0
  clear hh
  refine callP_meets (clone_spec (SlAt.keep hs.slAt hk) hl) ?_
  rintro sl' h3 ⟨hk3, hs3⟩
  have g1' := (hk3.2 _ (by omega)).trans g1
  have g0' := (hk3.2 _ (by omega)).trans g0
  have q1 := rowOf_rw g1'
  have q0 := rowOf_rw g0'
  unfold bnC at g1' q1
  have hsc3 := hs3.isCell
  have hcv := hs3.cellsV
  have hd : List.drop 10 zs = [] := List.drop_eq_nil_of_le (by omega)
  repeat' (first | simp only [evr, nextP_norm, evd, evq, beq_self_eq_true, cond_true, cond_false, reduceIte, Nat.reduceEqDiff, Nat.reduceAdd, Int.reduceBNe, Int.reduceBEq, Int.reduceLT, Int.reduceLE, Int.reduceEq, evh, evp, Nat.reduceLeDiff, Nat.reduceSub, Nat.reduceBEq, typs, q1, g1', q0, g0', hz, hsc3, hcv, hd] | refine kCond2_by (fun hc => ?_) (fun hc => ?_) <;> try simp only [hc] | refine kPick_by (fun hc => ?_) (fun hc => ?_) <;> try simp only [hc] | refine kWant_by (fun hc => ?_) (fun hc => ?_) <;> try simp only [hc])
  refine ⟨((hk.trans hk3).set (Nat.le_succ _)).set (Nat.le_refl _), sl', rfl, ?_⟩
  refine hs3.same (Same.trans (Same.set (b := h.next + 1) ?_) (Same.set (b := h.next) ?_)) (fun k hk => by omega)
  · rw [g1']; exact (by decide : 40 ≠ 65)
  · rw [Hp.get_set_ne (by omega), g0']; exact (by decide : 40 ≠ 65)

/-- What stands at a block that may be none. -/
def OutOf (h : Hp) (F : Nat → Prop) (o : Option Nat) (r : Option Bn) : Prop := match o, r with
  | none, none => True
  | some n, some b => ∃ x, NodeAt h F n x ∧ x.b = b ∧ b.acl.length ≤ 1000000000
  | _, _ => False
theorem out_any {F : Nat → Prop} {o : Option Nat} {r : Option Bn} (hO : OutOf h F o r) : Meets kon 75 [optP o] h (OutP r h) := by
  cases o with
  | none => cases r with
    | none => exact out_nil h
    | some b => exact hO.elim
  | some n => cases r with
    | none => exact hO.elim
    | some b =>
      obtain ⟨x, hN, rfl, hl⟩ := hO
      exact out_spec hN hl
theorem CoreAt.keep (c : CoreAt h bt bl bd bu fL fD fU nx) {h' : Hp} (k : Keep h h') (lt : bt < h.next ∧ bl < h.next ∧ bd < h.next ∧ bu < h.next) : CoreAt h' bt bl bd bu fL fD fU nx :=
  ⟨by rw [k.2 bt lt.1]; exact c.row, c.l.eq (k.2 bl lt.2.1), c.d.eq (k.2 bd lt.2.2.1), c.u.eq (k.2 bu lt.2.2.2), c.ld, c.lu, c.du⟩
theorem NodeAt.keep {F : Nat → Prop} {n : Nat} {x : Nd} (hN : NodeAt h F n x) {h' : Hp} (k : Keep h h') : NodeAt h' F n x := by
  obtain ⟨sl, h1, h2, h3⟩ := hN
  refine ⟨sl, Nat.lt_of_lt_of_le h1 k.1, by rw [k.2 n h1]; exact h2, ?_⟩
  exact h3.same (Same.keep k) fun _ hk => hk
theorem OutOf.keep {F : Nat → Prop} {o : Option Nat} {r : Option Bn} (hO : OutOf h F o r) {h' : Hp} (k : Keep h h') : OutOf h' F o r := by
  cases o with
  | none => cases r with
    | none => trivial
    | some b => exact hO.elim
  | some n => cases r with
    | none => exact hO.elim
    | some b => obtain ⟨x, h1, h2⟩ := hO; exact ⟨x, h1.keep k, h2⟩
/-- The branch's cells in what out hands over. -/
theorem OutP.cells {r : Option Bn} {h h' : Hp} {v : Value} (o : OutP r h v h') : ∃ cs b, v = .tuple #[.agg cs, .bool b] ∧ b = r.isSome ∧ cs.toList.length = 10 ∧ cs.toList.all isCell = true := by
  obtain ⟨_, o⟩ := o
  cases r with
  | none => subst o; exact ⟨_, _, rfl, rfl, rfl, rfl⟩
  | some b =>
    obtain ⟨sl, rfl, hs⟩ := o
    refine ⟨_, _, rfl, rfl, rfl, ?_⟩
    simp [bnC, isCell_int, isCell_string, isCell_bool, hs.isCell]
theorem OutP.set {r : Option Bn} {h0 h h' : Hp} {v : Value} (o : OutP r h v h') (k : Keep h0 h) {b : Nat} (hb : h0.next ≤ b) {cs cs' : List Value} (hg : h'.get b = some (.row cs 40 (.rw 0 []))) : OutP r h0 v (h'.set b (.row cs' 40 (.rw 0 []))) := by
  obtain ⟨k1, o⟩ := o
  refine ⟨(k.trans k1).set hb, ?_⟩
  cases r with
  | none => exact o
  | some x =>
    obtain ⟨sl, hv, hs⟩ := o
    refine ⟨sl, hv, hs.same (Same.set ?_) fun j hj => Nat.le_trans k.1 hj⟩
    rw [hg]; exact (by decide : 40 ≠ 65)

theorem look_spec (c : CoreAt h bt bl bd bu fL fD fU nx) (lt : bt < h.next ∧ bl < h.next ∧ bd < h.next ∧ bu < h.next) {F : Nat → Prop} (d : Int) (s : ByteArray) {r : Option Bn} (hO : OutOf h F (fL (d, s)) r) : Meets kon 85 [ptrV bt, .int .i64 d, .string s] h (OutP r h) := by
  refine Meets.mk rfl (by kernel_rfl) Tryz.func85 rfl (congrArg Array.toList Tryz.results85) ?_
  repeat' (first | simp only [evr, nextP_norm, evd, evq, beq_self_eq_true, cond_true, cond_false, reduceIte, Nat.reduceEqDiff, Nat.reduceAdd, Int.reduceBNe, Int.reduceBEq, Int.reduceLT, Int.reduceLE, Int.reduceEq, evh, evp, Nat.reduceLeDiff, Nat.reduceSub, Nat.reduceBEq, typs] | refine kCond2_by (fun hc => ?_) (fun hc => ?_) <;> try simp only [hc] | refine kPick_by (fun hc => ?_) (fun hc => ?_) <;> try simp only [hc] | refine kWant_by (fun hc => ?_) (fun hc => ?_) <;> try simp only [hc])
  generalize hh : Hp.push h _ = H
  have hk : Keep h H := by rw [← hh]; exact Keep.push _ _
  have g0 : H.get h.next = some (.row [.int .i64 0, .int .i64 0, .int .i64 0, .string ByteArray.empty, .bool false, .slice none 0 0, .int .i64 0, .int .i64 0, .int .i64 0, .int .i64 0] 40 (.rw 0 [])) := by rw [← hh]; exact Hp.get_push_self _ _
  have hx : H.next = h.next + 1 := by rw [← hh]; rfl
  clear hh
  refine callP_meets (get_spec (c.keep hk lt) d s) ?_
  rintro u h1 ⟨rfl, rfl⟩
  repeat' (first | simp only [evr, nextP_norm, evd, evq, beq_self_eq_true, cond_true, cond_false, reduceIte, Nat.reduceEqDiff, Nat.reduceAdd, Int.reduceBNe, Int.reduceBEq, Int.reduceLT, Int.reduceLE, Int.reduceEq, evh, evp, Nat.reduceLeDiff, Nat.reduceSub, Nat.reduceBEq, typs] | refine kCond2_by (fun hc => ?_) (fun hc => ?_) <;> try simp only [hc] | refine kPick_by (fun hc => ?_) (fun hc => ?_) <;> try simp only [hc] | refine kWant_by (fun hc => ?_) (fun hc => ?_) <;> try simp only [hc])
  refine callP_meets (out_any (hO.keep hk)) ?_
  rintro v h3 ho
  obtain ⟨cs, b, rfl, rfl, hc, hcc⟩ := ho.cells
  have g1 := (ho.1.2 h.next (by omega)).trans g0
  have q1 := rowOf_rw g1
  have hsz : cs.size = 10 := by rw [← Array.length_toList]; exact hc
  repeat' (first | simp only [evr, nextP_norm, evd, evq, beq_self_eq_true, cond_true, cond_false, reduceIte, Nat.reduceEqDiff, Nat.reduceAdd, Int.reduceBNe, Int.reduceBEq, Int.reduceLT, Int.reduceLE, Int.reduceEq, evh, evp, Nat.reduceLeDiff, Nat.reduceSub, Nat.reduceBEq, typs, q1, g1, hc, hcc, hsz] | refine kCond2_by (fun hc => ?_) (fun hc => ?_) <;> try simp only [hc] | refine kPick_by (fun hc => ?_) (fun hc => ?_) <;> try simp only [hc] | refine kWant_by (fun hc => ?_) (fun hc => ?_) <;> try simp only [hc])
  rw [List.take_of_length_le (by omega), Array.toArray_toList]
  exact ho.set hk (Nat.le_refl _) g1
theorem byUID_spec (c : CoreAt h bt bl bd bu fL fD fU nx) (lt : bt < h.next ∧ bl < h.next ∧ bd < h.next ∧ bu < h.next) {F : Nat → Prop} (u : Int) {r : Option Bn} (hO : OutOf h F (fU u) r) : Meets kon 89 [ptrV bt, .int .i64 u] h (OutP r h) := by
  unfold ptrV
  refine Meets.mk rfl (by kernel_rfl) Tryz.func89 rfl (congrArg Array.toList Tryz.results89) ?_
  have hne : (bt = h.next) = False := eq_false (by omega)
  have r0 := rowOf_rw c.row
  repeat' (first | simp only [evr, nextP_norm, evd, evq, beq_self_eq_true, cond_true, cond_false, reduceIte, Nat.reduceEqDiff, Nat.reduceAdd, Int.reduceBNe, Int.reduceBEq, Int.reduceLT, Int.reduceLE, Int.reduceEq, evh, evp, Nat.reduceLeDiff, Nat.reduceSub, Nat.reduceBEq, typs, r0, hne, if_false] | refine kCond2_by (fun hc => ?_) (fun hc => ?_) <;> try simp only [hc] | refine kPick_by (fun hc => ?_) (fun hc => ?_) <;> try simp only [hc] | refine kWant_by (fun hc => ?_) (fun hc => ?_) <;> try simp only [hc])
  generalize hh : Hp.push h _ = H
  have hk : Keep h H := by rw [← hh]; exact Keep.push _ _
  have g0 : H.get h.next = some (.row [.int .i64 0, .int .i64 0, .int .i64 0, .string ByteArray.empty, .bool false, .slice none 0 0, .int .i64 0, .int .i64 0, .int .i64 0, .int .i64 0] 40 (.rw 0 [])) := by rw [← hh]; exact Hp.get_push_self _ _
  have hx : H.next = h.next + 1 := by rw [← hh]; rfl
  clear hh
  have cH := c.keep hk lt
  have lu := cH.lookU u
  repeat' (first | simp only [evr, nextP_norm, evd, evq, beq_self_eq_true, cond_true, cond_false, reduceIte, Nat.reduceEqDiff, Nat.reduceAdd, Int.reduceBNe, Int.reduceBEq, Int.reduceLT, Int.reduceLE, Int.reduceEq, evh, evp, Nat.reduceLeDiff, Nat.reduceSub, Nat.reduceBEq, typs, lu] | refine kCond2_by (fun hc => ?_) (fun hc => ?_) <;> try simp only [hc] | refine kPick_by (fun hc => ?_) (fun hc => ?_) <;> try simp only [hc] | refine kWant_by (fun hc => ?_) (fun hc => ?_) <;> try simp only [hc])
  refine callP_meets (out_any (hO.keep hk)) ?_
  rintro v h3 ho
  obtain ⟨cs, b, rfl, rfl, hc, hcc⟩ := ho.cells
  have g1 := (ho.1.2 h.next (by omega)).trans g0
  have q1 := rowOf_rw g1
  have hsz : cs.size = 10 := by rw [← Array.length_toList]; exact hc
  repeat' (first | simp only [evr, nextP_norm, evd, evq, beq_self_eq_true, cond_true, cond_false, reduceIte, Nat.reduceEqDiff, Nat.reduceAdd, Int.reduceBNe, Int.reduceBEq, Int.reduceLT, Int.reduceLE, Int.reduceEq, evh, evp, Nat.reduceLeDiff, Nat.reduceSub, Nat.reduceBEq, typs, q1, g1, hc, hcc, hsz] | refine kCond2_by (fun hc => ?_) (fun hc => ?_) <;> try simp only [hc] | refine kPick_by (fun hc => ?_) (fun hc => ?_) <;> try simp only [hc] | refine kWant_by (fun hc => ?_) (fun hc => ?_) <;> try simp only [hc])
  rw [List.take_of_length_le (by omega), Array.toArray_toList]
  exact ho.set hk (Nat.le_refl _) g1
def segR (o : Option Nat) : Option Bn → Value
  | none => .tuple #[.pointer none, .int .i64 4]
  | some b => if b.kind = 1 then .tuple #[optP o, .int .i64 0] else .tuple #[.pointer none, .int .i64 15]
theorem segment_spec (c : CoreAt h bt bl bd bu fL fD fU nx) {F : Nat → Prop} (d : Int) (s : ByteArray) {r : Option Bn} (hO : OutOf h F (fL (d, s)) r) : Meets kon 68 [ptrV bt, .int .i64 d, .string s] h fun v h' => h' = h ∧ v = segR (fL (d, s)) r := by
  have hg := (get_spec c d s).call
  have hnn := (none_spec bt h).call
  cases hf : fL (d, s) with
  | none =>
    rw [hf] at hO hg
    cases r with
    | some b => exact hO.elim
    | none =>
      unfold ptrV optP at *
      refine Meets.mk rfl (by kernel_rfl) Tryz.func68 rfl (congrArg Array.toList Tryz.results68) ?_
      repeat' (first | simp only [evr, nextP_norm, evd, evq, beq_self_eq_true, cond_true, cond_false, reduceIte, Nat.reduceEqDiff, Nat.reduceAdd, Int.reduceBNe, Int.reduceBEq, Int.reduceLT, Int.reduceLE, Int.reduceEq, evh, evp, Nat.reduceLeDiff, Nat.reduceSub, Nat.reduceBEq, typs, hg, hnn] | refine kCond2_by (fun hc => ?_) (fun hc => ?_) <;> try simp only [hc] | refine kPick_by (fun hc => ?_) (fun hc => ?_) <;> try simp only [hc] | refine kWant_by (fun hc => ?_) (fun hc => ?_) <;> try simp only [hc])
      rfl
  | some n =>
    rw [hf] at hO hg
    cases r with
    | none => exact hO.elim
    | some b =>
      obtain ⟨x, ⟨sl, hlt, hn, hs⟩, rfl, hl⟩ := hO
      have r1 := rowOf_rw hn
      unfold ndC at r1
      unfold optP at *
      unfold ptrV at *
      refine Meets.mk rfl (by kernel_rfl) Tryz.func68 rfl (congrArg Array.toList Tryz.results68) ?_
      repeat' (first | simp only [evr, nextP_norm, evd, evq, beq_self_eq_true, cond_true, cond_false, reduceIte, Nat.reduceEqDiff, Nat.reduceAdd, Int.reduceBNe, Int.reduceBEq, Int.reduceLT, Int.reduceLE, Int.reduceEq, evh, evp, Nat.reduceLeDiff, Nat.reduceSub, Nat.reduceBEq, typs, hg, hnn, r1] | refine kCond2_by (fun hc => ?_) (fun hc => ?_) <;> try simp only [hc] | refine kPick_by (fun hc => ?_) (fun hc => ?_) <;> try simp only [hc] | refine kWant_by (fun hc => ?_) (fun hc => ?_) <;> try simp only [hc])
      all_goals (simp at hc; simp [segR, hc, optP, ptrV])

/-- Why a segment can't be changed. -/
def chE (ok : Bool) : Option Bn → Int
  | none => 4
  | some b => if b.kind ≠ 1 then 15 else if ok = false then 1 else 0
/-- A node has another branch behind the call; nothing else has changed. -/
def Chd (h : Hp) (o : Option Nat) (b b' : Bn) (h' : Hp) : Prop := ∃ n x sl sl', o = some n ∧ h.get n = some (.row (ndC x sl) 110 (.rw 0 [])) ∧ n < h.next ∧ x.b = b ∧
  h'.get n = some (.row (ndC ⟨b', x.home, x.many⟩ sl') 110 (.rw 0 [])) ∧ (sl' = sl ∧ b'.acl = b.acl ∨ TmTy h' (fun k => h.next ≤ k) sl' b'.acl) ∧ h.next ≤ h'.next ∧ ∀ k, k < h.next → k ≠ n → h'.get k = h.get k
theorem access_spec (c : CoreAt h bt bl bd bu fL fD fU nx) {F : Nat → Prop} (d : Int) (s : ByteArray) {r : Option Bn} (hO : OutOf h F (fL (d, s)) r) {v : Value} {l : List Tm} (hv : TmSl h v l) (hl : l.length ≤ 1000000000) :
    Meets kon 32 [ptrV bt, .int .i64 d, .string s, v] h fun u h' => u = .int .i64 (chE (listMay l) r) ∧ (chE (listMay l) r ≠ 0 → Keep h h') ∧ (chE (listMay l) r = 0 → ∀ b, r = some b → Chd h (fL (d, s)) b { b with acl := l } h') := by
  have hg := (segment_spec c d s hO)
  have hg' : ∀ Q, callP kon 68 h Q [ptrV bt, .int .i64 d, .string s] = Q (segR (fL (d, s)) r) h := fun Q => by
    obtain ⟨v, h', h1, rfl, rfl⟩ := hg
    exact callP_of h1
  cases r with
  | none =>
    unfold segR ptrV at hg'
    unfold ptrV
    refine Meets.mk rfl (by kernel_rfl) Tryz.func32 rfl (congrArg Array.toList Tryz.results32) ?_
    repeat' (first | simp only [evr, nextP_norm, evd, evq, beq_self_eq_true, cond_true, cond_false, reduceIte, Nat.reduceEqDiff, Nat.reduceAdd, Int.reduceBNe, Int.reduceBEq, Int.reduceLT, Int.reduceLE, Int.reduceEq, evh, evp, Nat.reduceLeDiff, Nat.reduceSub, Nat.reduceBEq, typs, hg'] | refine kCond2_by (fun hc => ?_) (fun hc => ?_) <;> try simp only [hc] | refine kPick_by (fun hc => ?_) (fun hc => ?_) <;> try simp only [hc] | refine kWant_by (fun hc => ?_) (fun hc => ?_) <;> try simp only [hc])
    exact ⟨rfl, fun _ => Keep.refl _, fun h => by simp [chE] at h⟩
  | some b =>
    cases hf : fL (d, s) with
    | none => rw [hf] at hO; exact hO.elim
    | some n =>
      rw [hf] at hO hg'
      obtain ⟨x, ⟨sl, hlt, hn, hs⟩, rfl, hl2⟩ := hO
      by_cases hk : x.b.kind = 1
      · simp only [segR, if_pos hk, optP] at hg'
        unfold ptrV at hg'
        unfold ptrV
        refine Meets.mk rfl (by kernel_rfl) Tryz.func32 rfl (congrArg Array.toList Tryz.results32) ?_
        repeat' (first | simp only [evr, nextP_norm, evd, evq, beq_self_eq_true, cond_true, cond_false, reduceIte, Nat.reduceEqDiff, Nat.reduceAdd, Int.reduceBNe, Int.reduceBEq, Int.reduceLT, Int.reduceLE, Int.reduceEq, evh, evp, Nat.reduceLeDiff, Nat.reduceSub, Nat.reduceBEq, typs, hg'] | refine kCond2_by (fun hc => ?_) (fun hc => ?_) <;> try simp only [hc] | refine kPick_by (fun hc => ?_) (fun hc => ?_) <;> try simp only [hc] | refine kWant_by (fun hc => ?_) (fun hc => ?_) <;> try simp only [hc])
        refine callP_meets (aMay_spec hv hl) ?_
        rintro u h1 ⟨rfl, k1⟩
        cases hm : listMay l with
        | false =>
          repeat' (first | simp only [evr, nextP_norm, evd, evq, beq_self_eq_true, cond_true, cond_false, reduceIte, Nat.reduceEqDiff, Nat.reduceAdd, Int.reduceBNe, Int.reduceBEq, Int.reduceLT, Int.reduceLE, Int.reduceEq, evh, evp, Nat.reduceLeDiff, Nat.reduceSub, Nat.reduceBEq, typs] | refine kCond2_by (fun hc => ?_) (fun hc => ?_) <;> try simp only [hc] | refine kPick_by (fun hc => ?_) (fun hc => ?_) <;> try simp only [hc] | refine kWant_by (fun hc => ?_) (fun hc => ?_) <;> try simp only [hc])
          exact ⟨by simp [chE, hk], fun _ => k1, fun h => by simp [chE, hk] at h⟩
        | true =>
          repeat' (first | simp only [evr, nextP_norm, evd, evq, beq_self_eq_true, cond_true, cond_false, reduceIte, Nat.reduceEqDiff, Nat.reduceAdd, Int.reduceBNe, Int.reduceBEq, Int.reduceLT, Int.reduceLE, Int.reduceEq, evh, evp, Nat.reduceLeDiff, Nat.reduceSub, Nat.reduceBEq, typs] | refine kCond2_by (fun hc => ?_) (fun hc => ?_) <;> try simp only [hc] | refine kPick_by (fun hc => ?_) (fun hc => ?_) <;> try simp only [hc] | refine kWant_by (fun hc => ?_) (fun hc => ?_) <;> try simp only [hc])
          refine callP_meets (clone_spec (hv.keep k1) hl) ?_
          rintro sl' h2 ⟨k2, hs2⟩
          have g2 := (k2.2 n (Nat.lt_of_lt_of_le hlt k1.1)).trans ((k1.2 n hlt).trans hn)
          have g2' := g2
          unfold ndC at g2'
          have hsc := hs2.isCell
          have hcv := hs2.cellsV
          repeat' (first | simp only [evr, nextP_norm, evd, evq, beq_self_eq_true, cond_true, cond_false, reduceIte, Nat.reduceEqDiff, Nat.reduceAdd, Int.reduceBNe, Int.reduceBEq, Int.reduceLT, Int.reduceLE, Int.reduceEq, evh, evp, Nat.reduceLeDiff, Nat.reduceSub, Nat.reduceBEq, typs, g2', hsc, hcv] | refine kCond2_by (fun hc => ?_) (fun hc => ?_) <;> try simp only [hc] | refine kPick_by (fun hc => ?_) (fun hc => ?_) <;> try simp only [hc] | refine kWant_by (fun hc => ?_) (fun hc => ?_) <;> try simp only [hc])
          refine ⟨by simp [chE, hk], fun h => absurd (by simp [chE, hk]) h, fun _ b hb => ?_⟩
          cases hb
          refine ⟨n, x, sl, sl', rfl, hn, hlt, rfl, Hp.get_set_self _ _ _, .inr ?_, Nat.le_trans k1.1 k2.1, fun k hk1 hk2 => ?_⟩
          · refine hs2.same (Same.set ?_) (fun k hk => Nat.le_trans k1.1 hk)
            rw [g2]; exact (by decide : 110 ≠ 65)
          · rw [Hp.get_set_ne hk2, k2.2 k (Nat.lt_of_lt_of_le hk1 k1.1), k1.2 k hk1]
      · simp only [segR, if_neg hk] at hg'
        unfold ptrV at hg'
        unfold ptrV
        refine Meets.mk rfl (by kernel_rfl) Tryz.func32 rfl (congrArg Array.toList Tryz.results32) ?_
        repeat' (first | simp only [evr, nextP_norm, evd, evq, beq_self_eq_true, cond_true, cond_false, reduceIte, Nat.reduceEqDiff, Nat.reduceAdd, Int.reduceBNe, Int.reduceBEq, Int.reduceLT, Int.reduceLE, Int.reduceEq, evh, evp, Nat.reduceLeDiff, Nat.reduceSub, Nat.reduceBEq, typs, hg'] | refine kCond2_by (fun hc => ?_) (fun hc => ?_) <;> try simp only [hc] | refine kPick_by (fun hc => ?_) (fun hc => ?_) <;> try simp only [hc] | refine kWant_by (fun hc => ?_) (fun hc => ?_) <;> try simp only [hc])
        exact ⟨by simp [chE, hk], fun _ => Keep.refl _, fun h => by simp [chE, hk] at h⟩
theorem ringed_spec (c : CoreAt h bt bl bd bu fL fD fU nx) (lt : bt < h.next ∧ bl < h.next ∧ bd < h.next ∧ bu < h.next) {F : Nat → Prop} (d : Int) (s : ByteArray) {r : Option Bn} (hO : OutOf h F (fL (d, s)) r) (b : Bk) :
    Meets kon 33 [ptrV bt, .int .i64 d, .string s, bkV b] h fun u h' => u = .int .i64 (chE (bkMay b) r) ∧ (chE (bkMay b) r ≠ 0 → Keep h h') ∧ (chE (bkMay b) r = 0 → ∀ b0, r = some b0 → Chd h (fL (d, s)) b0 { b0 with b := b } h') := by
  unfold bkV
  refine Meets.mk rfl (by kernel_rfl) Tryz.func33 rfl (congrArg Array.toList Tryz.results33) ?_
  repeat' (first | simp only [evr, nextP_norm, evd, evq, beq_self_eq_true, cond_true, cond_false, reduceIte, Nat.reduceEqDiff, Nat.reduceAdd, Int.reduceBNe, Int.reduceBEq, Int.reduceLT, Int.reduceLE, Int.reduceEq, evh, evp, Nat.reduceLeDiff, Nat.reduceSub, Nat.reduceBEq, typs] | refine kCond2_by (fun hc => ?_) (fun hc => ?_) <;> try simp only [hc] | refine kPick_by (fun hc => ?_) (fun hc => ?_) <;> try simp only [hc] | refine kWant_by (fun hc => ?_) (fun hc => ?_) <;> try simp only [hc])
  generalize hh : Hp.push h _ = H
  have hk : Keep h H := by rw [← hh]; exact Keep.push _ _
  have g0 : H.get h.next = some (.row [.int .i64 b.r1, .int .i64 b.r2, .int .i64 b.r3, .int .i64 b.g] 32 (.rw 0 [])) := by rw [← hh]; exact Hp.get_push_self _ _
  have hx : H.next = h.next + 1 := by rw [← hh]; rfl
  have q0 := rowOf_rw g0
  clear hh
  obtain ⟨v, h', hg, e1, e2⟩ := segment_spec (c.keep hk lt) d s (hO.keep hk)
  rw [e1, e2] at hg
  have hg' : ∀ Q, callP kon 68 H Q [ptrV bt, .int .i64 d, .string s] = Q (segR (fL (d, s)) r) H := fun Q => callP_of hg
  have hm := ringMay_spec b H
  unfold bkV at hm
  cases r with
  | none =>
    unfold segR ptrV at hg'
    unfold ptrV
    repeat' (first | simp only [evr, nextP_norm, evd, evq, beq_self_eq_true, cond_true, cond_false, reduceIte, Nat.reduceEqDiff, Nat.reduceAdd, Int.reduceBNe, Int.reduceBEq, Int.reduceLT, Int.reduceLE, Int.reduceEq, evh, evp, Nat.reduceLeDiff, Nat.reduceSub, Nat.reduceBEq, typs, hg', q0] | refine kCond2_by (fun hc => ?_) (fun hc => ?_) <;> try simp only [hc] | refine kPick_by (fun hc => ?_) (fun hc => ?_) <;> try simp only [hc] | refine kWant_by (fun hc => ?_) (fun hc => ?_) <;> try simp only [hc])
    exact ⟨rfl, fun _ => hk, fun h => by simp [chE] at h⟩
  | some b0 =>
    cases hf : fL (d, s) with
    | none => rw [hf] at hO; exact hO.elim
    | some n =>
      rw [hf] at hO hg'
      obtain ⟨x, ⟨sl, hlt, hn, hs⟩, rfl, hl2⟩ := hO
      by_cases hk1 : x.b.kind = 1
      · simp only [segR, if_pos hk1, optP] at hg'
        unfold ptrV at hg'
        unfold ptrV
        repeat' (first | simp only [evr, nextP_norm, evd, evq, beq_self_eq_true, cond_true, cond_false, reduceIte, Nat.reduceEqDiff, Nat.reduceAdd, Int.reduceBNe, Int.reduceBEq, Int.reduceLT, Int.reduceLE, Int.reduceEq, evh, evp, Nat.reduceLeDiff, Nat.reduceSub, Nat.reduceBEq, typs, hg', q0] | refine kCond2_by (fun hc => ?_) (fun hc => ?_) <;> try simp only [hc] | refine kPick_by (fun hc => ?_) (fun hc => ?_) <;> try simp only [hc] | refine kWant_by (fun hc => ?_) (fun hc => ?_) <;> try simp only [hc])
        refine callP_meets hm ?_
        rintro u h1 ⟨rfl, k1⟩
        have g1 := (k1.2 h.next (by omega)).trans g0
        have q1 := rowOf_rw g1
        cases hb : bkMay b with
        | false =>
          repeat' (first | simp only [evr, nextP_norm, evd, evq, beq_self_eq_true, cond_true, cond_false, reduceIte, Nat.reduceEqDiff, Nat.reduceAdd, Int.reduceBNe, Int.reduceBEq, Int.reduceLT, Int.reduceLE, Int.reduceEq, evh, evp, Nat.reduceLeDiff, Nat.reduceSub, Nat.reduceBEq, typs] | refine kCond2_by (fun hc => ?_) (fun hc => ?_) <;> try simp only [hc] | refine kPick_by (fun hc => ?_) (fun hc => ?_) <;> try simp only [hc] | refine kWant_by (fun hc => ?_) (fun hc => ?_) <;> try simp only [hc])
          exact ⟨by simp [chE, hk1], fun _ => hk.trans k1, fun h => by simp [chE, hk1] at h⟩
        | true =>
          have hne : n < H.next := Nat.lt_of_lt_of_le hlt hk.1
          have g2 := (k1.2 n hne).trans ((hk.2 n hlt).trans hn)
          have g2' := g2
          unfold ndC at g2'
          repeat' (first | simp only [evr, nextP_norm, evd, evq, beq_self_eq_true, cond_true, cond_false, reduceIte, Nat.reduceEqDiff, Nat.reduceAdd, Int.reduceBNe, Int.reduceBEq, Int.reduceLT, Int.reduceLE, Int.reduceEq, evh, evp, Nat.reduceLeDiff, Nat.reduceSub, Nat.reduceBEq, typs, q1, g2'] | refine kCond2_by (fun hc => ?_) (fun hc => ?_) <;> try simp only [hc] | refine kPick_by (fun hc => ?_) (fun hc => ?_) <;> try simp only [hc] | refine kWant_by (fun hc => ?_) (fun hc => ?_) <;> try simp only [hc])
          refine ⟨by simp [chE, hk1], fun h => absurd (by simp [chE, hk1]) h, fun _ b0 hb0 => ?_⟩
          cases hb0
          refine ⟨n, x, sl, sl, rfl, hn, hlt, rfl, Hp.get_set_self _ _ _, .inl ⟨rfl, rfl⟩, Nat.le_trans hk.1 k1.1, fun k hk1 hk2 => ?_⟩
          rw [Hp.get_set_ne hk2, k1.2 k (Nat.lt_of_lt_of_le hk1 hk.1), hk.2 k hk1]
      · simp only [segR, if_neg hk1] at hg'
        unfold ptrV at hg'
        unfold ptrV
        repeat' (first | simp only [evr, nextP_norm, evd, evq, beq_self_eq_true, cond_true, cond_false, reduceIte, Nat.reduceEqDiff, Nat.reduceAdd, Int.reduceBNe, Int.reduceBEq, Int.reduceLT, Int.reduceLE, Int.reduceEq, evh, evp, Nat.reduceLeDiff, Nat.reduceSub, Nat.reduceBEq, typs, hg', q0] | refine kCond2_by (fun hc => ?_) (fun hc => ?_) <;> try simp only [hc] | refine kPick_by (fun hc => ?_) (fun hc => ?_) <;> try simp only [hc] | refine kWant_by (fun hc => ?_) (fun hc => ?_) <;> try simp only [hc])
        exact ⟨by simp [chE, hk1], fun _ => hk, fun h => by simp [chE, hk1] at h⟩
end
end Go.Proofs.YtncmgiddcefpcaaGreatDoor
