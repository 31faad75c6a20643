/- The store in the heap, as the model's: New, may, get, Make, Size, Resize, Drop. -/
import Derived.Test.YtncmgiddcefpcaaDoorConP
import Derived.Test.YtncmgiddcefpcaaDoorEvM4
namespace Go.Proofs.YtncmgiddcefpcaaDoor
open Go Go.Ev Go.Con
set_option linter.unusedSimpArgs false
set_option linter.unusedVariables false
set_option maxRecDepth 100000

def idV (v : Value) : Value := v
def slW (b n : Nat) : Value := .slice (some ⟨b, 0, none⟩) n (2 * n)
def wdC (w : List Int) : List Value := w.map (.int .u64)
def roomV (S : Sto) (ws : List Nat) (u : Int) : Option Value := (S.room u).map fun w => slW (ws.getD (u.toNat - 1) 0) w.length
/-- The store's blocks: its own, its map, each room's words. -/
structure StoB (h : Hp) (F : Nat → Prop) (S : Sto) (bs bm : Nat) (ws : List Nat) : Prop where
  len : ws.length = S.L.length
  row : h.get bs = some (.row [.int .i64 S.quota, .int .i64 S.used, .int .i64 S.L.length, .map (some bm)] 145 (.rw 0 []))
  m : MapIs keyI idV h bm (roomV S ws)
  wd : ∀ (i : Nat) (w : List Int), S.L[i]? = some (some w) → ∃ b : Nat, ws[i]? = some b ∧ h.get b = some (.row (wdC w) 222 (.rw 0 []))
  nd : ws.Nodup
  nF : ∀ b ∈ ws, F b
  own : F bs ∧ F bm
  lt : ∀ k, F k → k < h.next
  ok : S.Ok
def StoAt (h : Hp) (F : Nat → Prop) (S : Sto) (bs : Nat) : Prop := ∃ bm ws, StoB h F S bs bm ws
section
variable {h : Hp} {F : Nat → Prop} {S : Sto} {bs bm : Nat} {ws : List Nat}
theorem StoB.keep (t : StoB h F S bs bm ws) {h' : Hp} (hn : h.next ≤ h'.next) (hs : ∀ k, F k → h'.get k = h.get k) : StoB h' F S bs bm ws := by
  refine ⟨t.len, by rw [hs bs t.own.1]; exact t.row, t.m.eq (hs bm t.own.2), fun i w hi => ?_, t.nd, t.nF, t.own, fun k hk => Nat.lt_of_lt_of_le (t.lt k hk) hn, t.ok⟩
  obtain ⟨b, h1, h2⟩ := t.wd i w hi
  exact ⟨b, h1, by rw [hs b (t.nF b (List.mem_of_getElem? h1))]; exact h2⟩
theorem StoAt.keep (t : StoAt h F S bs) {h' : Hp} (hn : h.next ≤ h'.next) (hs : ∀ k, F k → h'.get k = h.get k) : StoAt h' F S bs := by
  obtain ⟨bm, ws, t⟩ := t; exact ⟨bm, ws, t.keep hn hs⟩
theorem StoAt.keeps (t : StoAt h F S bs) {h' : Hp} (k : Keep h h') : StoAt h' F S bs := by
  obtain ⟨bm, ws, t⟩ := t; exact ⟨bm, ws, t.keep k.1 fun j hj => k.2 j (t.lt j hj)⟩
theorem StoB.ne (t : StoB h F S bs bm ws) : bs ≠ bm := by obtain ⟨es, ck, hg⟩ := t.m.get; exact get_ne t.row hg (by simp)
/-- A room: its block. -/
theorem StoB.at (t : StoB h F S bs bm ws) {u : Int} {w : List Int} (hr : S.room u = some w) : ∃ b, ws[u.toNat - 1]? = some b ∧ roomV S ws u = some (slW b w.length) ∧ F b ∧ h.get b = some (.row (wdC w) 222 (.rw 0 [])) ∧ b ≠ bs ∧ b ≠ bm := by
  obtain ⟨h1, h2, h3⟩ := Sto.room_some hr
  obtain ⟨b, e1, e2⟩ := t.wd _ w h3
  obtain ⟨es, ck, hg⟩ := t.m.get
  refine ⟨b, e1, ?_, t.nF b (List.mem_of_getElem? e1), e2, get_ne e2 t.row (by simp), get_ne e2 hg (by simp)⟩
  unfold roomV
  rw [hr, List.getD_eq_getElem?_getD, e1]; rfl
theorem StoB.look (t : StoB h F S bs bm ws) (u : Int) (f : Bool) : evLookup kon.P 143 (.map (some bm)) (.int .i64 u) f h = some (match roomV S ws u with
    | some v => bif f then .tuple #[v, .bool true] else v
    | none => bif f then .tuple #[.slice none 0 0, .bool false] else .slice none 0 0) := by
  have := t.m.look (kt := 3) (et := 146) (t := 143) (P := kon.P) (by kernel_rfl) (keyI_ok Tryd.underlying3) (z := .slice none 0 0) (by kernel_rfl) rfl u f
  unfold keyI at this
  rw [this]
  cases roomV S ws u <;> rfl

theorem sNew_spec (q : Int) (h : Hp) : Meets kon 54 [.int .i64 q] h fun v h' => ∃ F bs, v = ptrV bs ∧ Keep h h' ∧ StoAt h' F ⟨max q 0, []⟩ bs ∧ ∀ k, F k → h.next ≤ k := by
  refine Meets.mk rfl (by kernel_rfl) Tryd.func54 rfl (congrArg Array.toList Tryd.results54) ?_
  repeat' (first | simp only [evr, nextP_norm, evd, evq, beq_self_eq_true, cond_true, cond_false, reduceIte, Nat.reduceEqDiff, Nat.reduceAdd, Int.reduceBNe, Int.reduceBEq, Int.reduceLT, Int.reduceLE, Int.reduceEq, evh, evp, Nat.reduceLeDiff, Nat.reduceSub, Nat.reduceBEq, typs, P_max, kMax_two] | refine kCond2_by (fun hc => ?_) (fun hc => ?_) <;> try simp only [hc] | refine kPick_by (fun hc => ?_) (fun hc => ?_) <;> try simp only [hc] | refine kWant_by (fun hc => ?_) (fun hc => ?_) <;> try simp only [hc])
  refine ⟨fun k => h.next ≤ k ∧ k < h.next + 2, h.next + 1, rfl, (Keep.push _ _).pushed, ⟨h.next, [], ⟨rfl, ?_, ?_, fun i w hi => by simp at hi, .nil, by simp, ⟨⟨by omega, by omega⟩, by omega, by omega⟩, fun k hk => hk.2, Sto.Ok.new⟩⟩, fun k hk => hk.1⟩
  · exact Hp.get_push_self (h.push (.map [] 0)) _
  · have hz : roomV ⟨max q 0, []⟩ [] = fun _ => none := by
      funext u
      unfold roomV Sto.room
      split <;> simp
    rw [hz]
    exact (MapIs.new h keyI idV).eq (Hp.get_push_lt (Nat.lt_succ_self _))
theorem sMay_spec (t : StoB h F S bs bm ws) (n g : Int) (hg0 : 0 ≤ g) (hg1 : g ≤ S.used) (hq : S.quota ≤ 9223372036854775807) : Meets kon 96 [ptrV bs, .int .i64 n, .int .i64 g] h fun v h' => v = .int .i64 (S.mayE n g) ∧ h' = h := by
  have hr := rowOf_rw t.row
  have q0 := t.ok.quota
  have u0 := t.ok.used
  unfold ptrV
  refine Meets.mk rfl (by kernel_rfl) Tryd.func96 rfl (congrArg Array.toList Tryd.results96) ?_
  rcases Bool.eq_false_or_eq_true (decide (n < 0)) with e1 | e1
  · have hm : S.mayE n g = 1 := by unfold Sto.mayE; rw [if_pos (.inl (of_decide_eq_true e1))]
    rw [hm]
    repeat' (first | simp only [evr, nextP_norm, evd, evq, beq_self_eq_true, cond_true, cond_false, reduceIte, Nat.reduceEqDiff, Nat.reduceAdd, Int.reduceBNe, Int.reduceBEq, Int.reduceLT, Int.reduceLE, Int.reduceEq, evh, evp, Nat.reduceLeDiff, Nat.reduceSub, Nat.reduceBEq, typs, hr, e1] | refine kCond2_by (fun hc => ?_) (fun hc => ?_) <;> try simp only [hc] | refine kPick_by (fun hc => ?_) (fun hc => ?_) <;> try simp only [hc] | refine kWant_by (fun hc => ?_) (fun hc => ?_) <;> try simp only [hc])
  · rcases Bool.eq_false_or_eq_true (decide ((1024 : Int) < n)) with e2 | e2
    · have hm : S.mayE n g = 1 := by unfold Sto.mayE; rw [if_pos (.inr (of_decide_eq_true e2))]
      rw [hm]
      repeat' (first | simp only [evr, nextP_norm, evd, evq, beq_self_eq_true, cond_true, cond_false, reduceIte, Nat.reduceEqDiff, Nat.reduceAdd, Int.reduceBNe, Int.reduceBEq, Int.reduceLT, Int.reduceLE, Int.reduceEq, evh, evp, Nat.reduceLeDiff, Nat.reduceSub, Nat.reduceBEq, typs, hr, e1, e2] | refine kCond2_by (fun hc => ?_) (fun hc => ?_) <;> try simp only [hc] | refine kPick_by (fun hc => ?_) (fun hc => ?_) <;> try simp only [hc] | refine kWant_by (fun hc => ?_) (fun hc => ?_) <;> try simp only [hc])
    · have f1 := of_decide_eq_false e1
      have f2 := of_decide_eq_false e2
      have w1 := wrap64 (x := (S.used : Int) - g) (by omega) (by omega)
      have w2 := wrap64 (x := S.quota - n) (by omega) (by omega)
      repeat' (first | simp only [evr, nextP_norm, evd, evq, beq_self_eq_true, cond_true, cond_false, reduceIte, Nat.reduceEqDiff, Nat.reduceAdd, Int.reduceBNe, Int.reduceBEq, Int.reduceLT, Int.reduceLE, Int.reduceEq, evh, evp, Nat.reduceLeDiff, Nat.reduceSub, Nat.reduceBEq, typs, hr, e1, e2] | refine kCond2_by (fun hc => ?_) (fun hc => ?_) <;> try simp only [hc] | refine kPick_by (fun hc => ?_) (fun hc => ?_) <;> try simp only [hc] | refine kWant_by (fun hc => ?_) (fun hc => ?_) <;> try simp only [hc])
      refine Eq.mpr (Wp_drawOrd (KR.mk (by kernel_rfl))) ?_
      rcases Bool.eq_false_or_eq_true (decide (S.quota - n < (S.used : Int) - g)) with e3 | e3
      · have hm : S.mayE n g = 6 := by unfold Sto.mayE; rw [if_neg (by omega), if_pos (of_decide_eq_true e3)]
        rw [hm]
        repeat' (first | simp only [evr, nextP_norm, evd, evq, beq_self_eq_true, cond_true, cond_false, reduceIte, Nat.reduceEqDiff, Nat.reduceAdd, Int.reduceBNe, Int.reduceBEq, Int.reduceLT, Int.reduceLE, Int.reduceEq, evh, evp, Nat.reduceLeDiff, Nat.reduceSub, Nat.reduceBEq, typs, hr, w1, w2, e3] | refine kCond2_by (fun hc => ?_) (fun hc => ?_) <;> try simp only [hc] | refine kPick_by (fun hc => ?_) (fun hc => ?_) <;> try simp only [hc] | refine kWant_by (fun hc => ?_) (fun hc => ?_) <;> try simp only [hc])
      · have hm : S.mayE n g = 0 := by unfold Sto.mayE; rw [if_neg (by omega), if_neg (of_decide_eq_false e3)]
        rw [hm]
        repeat' (first | simp only [evr, nextP_norm, evd, evq, beq_self_eq_true, cond_true, cond_false, reduceIte, Nat.reduceEqDiff, Nat.reduceAdd, Int.reduceBNe, Int.reduceBEq, Int.reduceLT, Int.reduceLE, Int.reduceEq, evh, evp, Nat.reduceLeDiff, Nat.reduceSub, Nat.reduceBEq, typs, hr, w1, w2, e3] | refine kCond2_by (fun hc => ?_) (fun hc => ?_) <;> try simp only [hc] | refine kPick_by (fun hc => ?_) (fun hc => ?_) <;> try simp only [hc] | refine kWant_by (fun hc => ?_) (fun hc => ?_) <;> try simp only [hc])
def getV (S : Sto) (ws : List Nat) (u : Int) : Value := match roomV S ws u with
  | some v => .tuple #[v, .int .i64 0]
  | none => .tuple #[.slice none 0 0, .int .i64 4]
theorem sGet_spec (t : StoB h F S bs bm ws) (u : Int) : Meets kon 104 [ptrV bs, .int .i64 u] h fun v h' => v = getV S ws u ∧ h' = h := by
  have hr := rowOf_rw t.row
  have hl := t.look u true
  unfold ptrV getV
  refine Meets.mk rfl (by kernel_rfl) Tryd.func104 rfl (congrArg Array.toList Tryd.results104) ?_
  cases hv : roomV S ws u with
  | none =>
    rw [hv] at hl
    simp only [cond_true] at hl
    repeat' (first | simp only [evr, nextP_norm, evd, evq, beq_self_eq_true, cond_true, cond_false, reduceIte, Nat.reduceEqDiff, Nat.reduceAdd, Int.reduceBNe, Int.reduceBEq, Int.reduceLT, Int.reduceLE, Int.reduceEq, evh, evp, Nat.reduceLeDiff, Nat.reduceSub, Nat.reduceBEq, typs, hr, hl] | refine kCond2_by (fun hc => ?_) (fun hc => ?_) <;> try simp only [hc] | refine kPick_by (fun hc => ?_) (fun hc => ?_) <;> try simp only [hc] | refine kWant_by (fun hc => ?_) (fun hc => ?_) <;> try simp only [hc])
  | some v =>
    rw [hv] at hl
    simp only [cond_true] at hl
    repeat' (first | simp only [evr, nextP_norm, evd, evq, beq_self_eq_true, cond_true, cond_false, reduceIte, Nat.reduceEqDiff, Nat.reduceAdd, Int.reduceBNe, Int.reduceBEq, Int.reduceLT, Int.reduceLE, Int.reduceEq, evh, evp, Nat.reduceLeDiff, Nat.reduceSub, Nat.reduceBEq, typs, hr, hl] | refine kCond2_by (fun hc => ?_) (fun hc => ?_) <;> try simp only [hc] | refine kPick_by (fun hc => ?_) (fun hc => ?_) <;> try simp only [hc] | refine kWant_by (fun hc => ?_) (fun hc => ?_) <;> try simp only [hc])
theorem wdC_zero (k : Nat) : (List.replicate k [Value.int .u64 0]).flatten = wdC (List.replicate k 0) := by
  induction k with
  | zero => rfl
  | succ k ih => rw [List.replicate_succ, List.flatten_cons, ih]; rfl
theorem roomV_made (t : StoB h F S bs bm ws) (k b : Nat) : roomV (S.made k) (ws ++ [b]) = upd (roomV S ws) (S.L.length + 1) (some (slW b k)) := by
  funext u
  unfold roomV
  rw [Sto.room_made]
  by_cases hu : u = S.L.length + 1
  · subst hu
    rw [if_pos rfl, upd_self]
    have : ((S.L.length : Int) + 1).toNat - 1 = ws.length := by rw [t.len]; omega
    rw [this]; simp
  · rw [if_neg hu, upd_ne _ _ hu]
    cases hr : S.room u with
    | none => rfl
    | some w =>
      obtain ⟨h1, h2, h3⟩ := Sto.room_some hr
      simp only [Option.map_some]
      rw [List.getD_eq_getElem?_getD, List.getD_eq_getElem?_getD, List.getElem?_append_left (by rw [t.len]; exact h2)]
theorem sMake_spec (t : StoAt h F S bs) (n : Int) (hq : S.quota ≤ 9223372036854775807) (hL : S.L.length ≤ 1000000000000) : Meets kon 55 [ptrV bs, .int .i64 n] h fun v h' =>
    v = .tuple #[.int .i64 (S.make n).2.1, .int .i64 (S.make n).2.2] ∧ ∃ F', StoAt h' F' (S.make n).1 bs ∧ Upd h F h' F' := by
  obtain ⟨bm, ws, t⟩ := t
  have hr := rowOf_rw t.row
  have hg := t.row
  have hm := (sMay_spec t n 0 (by omega) (by omega) hq).call
  unfold ptrV at hm
  unfold ptrV
  refine Meets.mk rfl (by kernel_rfl) Tryd.func55 rfl (congrArg Array.toList Tryd.results55) ?_
  by_cases he : S.mayE n 0 = 0
  · obtain ⟨m1, m2, m3⟩ := Sto.mayE_zero he
    have u0 := t.ok.used
    have hmk : S.make n = (S.made n, (S.L.length : Int) + 1, 0) := by unfold Sto.make; rw [if_pos he]
    rw [hmk]
    rw [he] at hm
    obtain ⟨k, rfl⟩ := Int.eq_ofNat_of_zero_le m1
    have w1 := wrap64 (x := (S.L.length : Int) + 1) (by omega) (by omega)
    repeat' (first | simp only [evr, nextP_norm, evd, evq, beq_self_eq_true, cond_true, cond_false, reduceIte, Nat.reduceEqDiff, Nat.reduceAdd, Int.reduceBNe, Int.reduceBEq, Int.reduceLT, Int.reduceLE, Int.reduceEq, evh, evp, Nat.reduceLeDiff, Nat.reduceSub, Nat.reduceBEq, typs, hm, hr, hg, w1] | refine kCond2_by (fun hc => ?_) (fun hc => ?_) <;> try simp only [hc] | refine kPick_by (fun hc => ?_) (fun hc => ?_) <;> try simp only [hc] | refine kWant_by (fun hc => ?_) (fun hc => ?_) <;> try simp only [hc])
    generalize hh : h.set bs _ = h1
    have g1 : h1.get bs = some (.row [.int .i64 S.quota, .int .i64 S.used, .int .i64 (S.L.length + 1), .map (some bm)] 145 (.rw 0 [])) := by rw [← hh]; exact Hp.get_set_self _ _ _
    have s1 : ∀ k, k ≠ bs → h1.get k = h.get k := fun k hk => by rw [← hh]; exact Hp.get_set_ne hk
    have n1 : h1.next = h.next := by rw [← hh]; rfl
    clear hh
    have bne := t.ne
    have blt := t.lt _ t.own.1
    have mlt := t.lt _ t.own.2
    have r1 := rowOf_rw g1
    have hmk := L_make (C := kon) (t := 146) (e := 222) (n := 1) (by_ := 8) (z := .int .u64 0) (zs := [.int .u64 0]) (by kernel_rfl) (by kernel_rfl) (by kernel_rfl) (by kernel_rfl) rfl (by kernel_rfl) k (by omega)
    rw [wdC_zero] at hmk
    generalize ho : Ob.row (wdC (List.replicate k 0)) 222 (St.rw 0 []) = ob at hmk
    have m1 : MapIs keyI idV (h1.push ob) bm (roomV S ws) := t.m.eq (by rw [Hp.get_push_lt (by omega), s1 bm (Ne.symm bne)])
    obtain ⟨h3, e3, m3, n3, s3⟩ := m1.put (t := 143) (kt := 3) (et := 146) (P := kon.P) (by kernel_rfl) (keyI_ok Tryd.underlying3) (S.L.length + 1) (slW h.next k)
    unfold keyI idV slW at e3
    have g3 : h3.get bs = some (.row [.int .i64 S.quota, .int .i64 S.used, .int .i64 (S.L.length + 1), .map (some bm)] 145 (.rw 0 [])) := by rw [s3 bs bne, Hp.get_push_lt (by omega)]; exact g1
    have r3 := rowOf_rw g3
    have w2 := wrap64 (x := (S.used : Int) + k) (by omega) (by omega)
    refine Wp_drawE [0, 0, 0, 1, 0, 0, 0, 1, 0, 2, 4] (KR.mk (by kernel_rfl)) ?_
    repeat' (first | simp only [evr, nextP_norm, evd, evq, beq_self_eq_true, cond_true, cond_false, reduceIte, Nat.reduceEqDiff, Nat.reduceAdd, Int.reduceBNe, Int.reduceBEq, Int.reduceLT, Int.reduceLE, Int.reduceEq, evh, evp, Nat.reduceLeDiff, Nat.reduceSub, Nat.reduceBEq, typs, r1, g1, hmk, n1, e3, r3, g3, w2] | refine kCond2_by (fun hc => ?_) (fun hc => ?_) <;> try simp only [hc] | refine kPick_by (fun hc => ?_) (fun hc => ?_) <;> try simp only [hc] | refine kWant_by (fun hc => ?_) (fun hc => ?_) <;> try simp only [hc])
    generalize hh : h3.set bs _ = h4
    have g4 : h4.get bs = some (.row [.int .i64 S.quota, .int .i64 (S.used + k), .int .i64 (S.L.length + 1), .map (some bm)] 145 (.rw 0 [])) := by rw [← hh]; exact Hp.get_set_self _ _ _
    have s4 : ∀ k, k ≠ bs → h4.get k = h3.get k := fun k hk => by rw [← hh]; exact Hp.get_set_ne hk
    have n4 : h4.next = h.next + 1 := by rw [← hh]; show h3.next = _; rw [n3, Hp.next_push, n1]
    clear hh
    have old : ∀ j, j < h.next → j ≠ bs → j ≠ bm → h4.get j = h.get j := fun j h1 h2 h3' => by rw [s4 j h2, s3 j h3', Hp.get_push_lt (by omega), s1 j h2]
    have new : h4.get h.next = some ob := by rw [s4 _ (by omega), s3 _ (by omega), ← n1]; exact Hp.get_push_self _ _
    have hu : ((S.made k).used : Int) = S.used + k := by rw [Sto.used_made]; simp
    refine ⟨fun j => F j ∨ j = h.next, ⟨bm, ws ++ [h.next], ⟨by simp [Sto.made, t.len], ?_, ?_, fun i w hi => ?_, ?_, ?_, ⟨.inl t.own.1, .inl t.own.2⟩, fun j hj => ?_, t.ok.made he⟩⟩, ⟨by omega, fun j h1 h2 => old j h1 (fun e => h2 (e ▸ t.own.1)) (fun e => h2 (e ▸ t.own.2)), fun j hj => hj.imp id (fun e => by omega)⟩⟩
    · rw [g4, hu]; simp [Sto.made]
    · rw [roomV_made t]
      exact m3.eq (s4 bm (Ne.symm bne))
    · have hi : (S.L ++ [some (List.replicate ((k : Int).toNat) 0)])[i]? = some (some w) := hi
      by_cases h2 : i < S.L.length
      · rw [List.getElem?_append_left h2] at hi
        obtain ⟨b, e1, e2⟩ := t.wd i w hi
        have hb := t.nF b (List.mem_of_getElem? e1)
        obtain ⟨es, ck, hgm⟩ := t.m.get
        refine ⟨b, by rw [List.getElem?_append_left (by rw [t.len]; exact h2)]; exact e1, ?_⟩
        rw [old b (t.lt b hb) (get_ne e2 t.row (by simp)) (get_ne e2 hgm (by simp))]
        exact e2
      · have hi2 : i = S.L.length := by
          have := (List.getElem?_eq_some_iff.1 hi).1
          simp at this; omega
        subst hi2
        simp at hi
        subst hi
        exact ⟨h.next, by rw [← t.len]; simp, by rw [new, ← ho]⟩
    · rw [List.nodup_append]
      refine ⟨t.nd, by simp, fun a ha b hb => ?_⟩
      simp only [List.mem_singleton] at hb
      have := t.lt a (t.nF a ha)
      omega
    · intro b hb
      rcases List.mem_append.1 hb with hb | hb
      · exact .inl (t.nF b hb)
      · exact .inr (by simpa using hb)
    · rcases hj with hj | hj
      · have := t.lt j hj; omega
      · omega
  · have hmk : S.make n = (S, 0, S.mayE n 0) := by unfold Sto.make; rw [if_neg he]
    rw [hmk]
    have e1 : (S.mayE n 0 != 0) = true := by simp [he]
    repeat' (first | simp only [evr, nextP_norm, evd, evq, beq_self_eq_true, cond_true, cond_false, reduceIte, Nat.reduceEqDiff, Nat.reduceAdd, Int.reduceBNe, Int.reduceBEq, Int.reduceLT, Int.reduceLE, Int.reduceEq, evh, evp, Nat.reduceLeDiff, Nat.reduceSub, Nat.reduceBEq, typs, hm, e1] | refine kCond2_by (fun hc => ?_) (fun hc => ?_) <;> try simp only [hc] | refine kPick_by (fun hc => ?_) (fun hc => ?_) <;> try simp only [hc] | refine kWant_by (fun hc => ?_) (fun hc => ?_) <;> try simp only [hc])
    exact ⟨F, ⟨bm, ws, t⟩, Nat.le_refl _, fun _ _ _ => rfl, fun _ hk => .inl hk⟩
theorem sSize_spec (t : StoAt h F S bs) (u : Int) : Meets kon 97 [ptrV bs, .int .i64 u] h fun v h' => v = .tuple #[.int .i64 (S.size u).1, .int .i64 (S.size u).2] ∧ h' = h := by
  obtain ⟨bm, ws, t⟩ := t
  have hg := (sGet_spec t u).call
  unfold getV ptrV at hg
  unfold ptrV
  refine Meets.mk rfl (by kernel_rfl) Tryd.func97 rfl (congrArg Array.toList Tryd.results97) ?_
  cases hr : S.room u with
  | none =>
    have e : roomV S ws u = none := by unfold roomV; rw [hr]; rfl
    have e2 : S.size u = (0, 4) := by unfold Sto.size; rw [hr]
    rw [e] at hg
    rw [e2]
    repeat' (first | simp only [evr, nextP_norm, evd, evq, beq_self_eq_true, cond_true, cond_false, reduceIte, Nat.reduceEqDiff, Nat.reduceAdd, Int.reduceBNe, Int.reduceBEq, Int.reduceLT, Int.reduceLE, Int.reduceEq, evh, evp, Nat.reduceLeDiff, Nat.reduceSub, Nat.reduceBEq, typs, hg, evLen_slice (P := kon.P) (t := 146) (e := 222) (by kernel_rfl)] | refine kCond2_by (fun hc => ?_) (fun hc => ?_) <;> try simp only [hc] | refine kPick_by (fun hc => ?_) (fun hc => ?_) <;> try simp only [hc] | refine kWant_by (fun hc => ?_) (fun hc => ?_) <;> try simp only [hc])
    rfl
  | some w =>
    obtain ⟨b, h1, h2, _⟩ := t.at hr
    have e2 : S.size u = ((w.length : Int), 0) := by unfold Sto.size; rw [hr]
    rw [h2] at hg
    unfold slW at hg
    rw [e2]
    repeat' (first | simp only [evr, nextP_norm, evd, evq, beq_self_eq_true, cond_true, cond_false, reduceIte, Nat.reduceEqDiff, Nat.reduceAdd, Int.reduceBNe, Int.reduceBEq, Int.reduceLT, Int.reduceLE, Int.reduceEq, evh, evp, Nat.reduceLeDiff, Nat.reduceSub, Nat.reduceBEq, typs, hg] | refine kCond2_by (fun hc => ?_) (fun hc => ?_) <;> try simp only [hc] | refine kPick_by (fun hc => ?_) (fun hc => ?_) <;> try simp only [hc] | refine kWant_by (fun hc => ?_) (fun hc => ?_) <;> try simp only [hc])
theorem roomV_none {u : Int} (h : S.room u = none) : roomV S ws u = none := by unfold roomV; rw [h]; rfl
theorem roomV_del {w : List Int} {u : Int} (hr : S.room u = some w) : roomV (S.setR u none) ws = upd (roomV S ws) u none := by
  funext x
  unfold roomV upd
  rw [Sto.room_setR hr]
  by_cases hx : x = u
  · rw [if_pos hx, if_pos hx]; rfl
  · rw [if_neg hx, if_neg hx]
theorem roomV_set {w w' : List Int} {u : Int} (hr : S.room u = some w) (b : Nat) (hl : (u.toNat - 1) < ws.length) : roomV (S.setR u (some w')) (ws.set (u.toNat - 1) b) = upd (roomV S ws) u (some (slW b w'.length)) := by
  funext x
  unfold roomV upd
  rw [Sto.room_setR hr]
  by_cases hx : x = u
  · subst hx
    rw [if_pos rfl, if_pos rfl]
    simp [hl]
  · rw [if_neg hx, if_neg hx]
    show Option.map _ (S.room x) = Option.map (fun w => slW (ws.getD (x.toNat - 1) 0) w.length) (S.room x)
    cases hr2 : S.room x with
    | none => rfl
    | some z =>
      obtain ⟨h1, _, _⟩ := Sto.room_some hr2
      obtain ⟨h2, _, _⟩ := Sto.room_some hr
      simp only [Option.map_some]
      rw [List.getD_eq_getElem?_getD, List.getD_eq_getElem?_getD, List.getElem?_set_ne (by omega)]
/-- One room is another one. -/
theorem StoB.setR (t : StoB h F S bs bm ws) {u : Int} {w : List Int} (hr : S.room u = some w) {o : Option (List Int)} {ws' : List Nat} {F' : Nat → Prop} {h' : Hp} (hF : ∀ j, F j → F' j) (hlt : ∀ j, F' j → j < h'.next)
    (ok : (S.setR u o).Ok) (hl : ws'.length = ws.length) (hw : ∀ i, i ≠ u.toNat - 1 → ws'[i]? = ws[i]?) (nd : ws'.Nodup) (nF : ∀ b ∈ ws', F' b)
    (row : h'.get bs = some (.row [.int .i64 S.quota, .int .i64 ((S.setR u o).used : Nat), .int .i64 S.L.length, .map (some bm)] 145 (.rw 0 [])))
    (m : MapIs keyI idV h' bm (roomV (S.setR u o) ws')) (old : ∀ (i b : Nat), i ≠ u.toNat - 1 → ws[i]? = some b → b ≠ bs → b ≠ bm → h'.get b = h.get b)
    (new : ∀ w', o = some w' → ∃ b : Nat, ws'[u.toNat - 1]? = some b ∧ h'.get b = some (.row (wdC w') 222 (.rw 0 []))) : StoB h' F' (S.setR u o) bs bm ws' := by
  obtain ⟨h1, h2, h3⟩ := Sto.room_some hr
  refine ⟨by rw [hl, t.len]; simp [Sto.setR], by rw [row]; simp [Sto.setR], m, fun i z hi => ?_, nd, nF, ⟨hF _ t.own.1, hF _ t.own.2⟩, hlt, ok⟩
  by_cases hii : i = u.toNat - 1
  · subst hii
    have hi : (S.L.set (u.toNat - 1) o)[u.toNat - 1]? = some (some z) := hi
    rw [List.getElem?_set_self h2] at hi
    exact new z (Option.some.inj hi)
  · have hi : (S.L.set (u.toNat - 1) o)[i]? = some (some z) := hi
    rw [List.getElem?_set_ne (Ne.symm hii)] at hi
    obtain ⟨b, e1, e2⟩ := t.wd i z hi
    obtain ⟨es, ck, hgm⟩ := t.m.get
    exact ⟨b, by rw [hw i hii]; exact e1, by rw [old i b hii e1 (get_ne e2 t.row (by simp)) (get_ne e2 hgm (by simp))]; exact e2⟩
theorem sDrop_spec (t : StoAt h F S bs) (u : Int) (hq : S.quota ≤ 9223372036854775807) : Meets kon 67 [ptrV bs, .int .i64 u] h fun v h' => v = .int .i64 (S.drop u).2 ∧ ∃ F', StoAt h' F' (S.drop u).1 bs ∧ Upd h F h' F' := by
  obtain ⟨bm, ws, t⟩ := t
  have hgt := (sGet_spec t u).call
  have hrow := rowOf_rw t.row
  have hg := t.row
  unfold getV ptrV at hgt
  unfold ptrV
  refine Meets.mk rfl (by kernel_rfl) Tryd.func67 rfl (congrArg Array.toList Tryd.results67) ?_
  cases hr : S.room u with
  | none =>
    have e2 : S.drop u = (S, 4) := by unfold Sto.drop; rw [hr]
    rw [roomV_none hr] at hgt
    rw [e2]
    repeat' (first | simp only [evr, nextP_norm, evd, evq, beq_self_eq_true, cond_true, cond_false, reduceIte, Nat.reduceEqDiff, Nat.reduceAdd, Int.reduceBNe, Int.reduceBEq, Int.reduceLT, Int.reduceLE, Int.reduceEq, evh, evp, Nat.reduceLeDiff, Nat.reduceSub, Nat.reduceBEq, typs, hgt] | refine kCond2_by (fun hc => ?_) (fun hc => ?_) <;> try simp only [hc] | refine kPick_by (fun hc => ?_) (fun hc => ?_) <;> try simp only [hc] | refine kWant_by (fun hc => ?_) (fun hc => ?_) <;> try simp only [hc])
    exact ⟨F, ⟨bm, ws, t⟩, Nat.le_refl _, fun _ _ _ => rfl, fun _ hk => .inl hk⟩
  | some w =>
    obtain ⟨b, h1, h2, _⟩ := t.at hr
    have e2 : S.drop u = (S.setR u none, 0) := by unfold Sto.drop; rw [hr]
    rw [h2] at hgt
    unfold slW at hgt
    rw [e2]
    have u0 := t.ok.used
    have u1 := Sto.used_le hr
    have u2 := Sto.used_setR hr none
    simp only [Sto.lenO] at u2
    have w1 := wrap64 (x := (S.used : Int) - w.length) (by omega) (by omega)
    generalize hh : h.set bs (.row [.int .i64 S.quota, .int .i64 ((S.used : Int) - w.length), .int .i64 S.L.length, .map (some bm)] 145 (.rw 0 [])) = ha
    have g1 : ha.get bs = some (.row [.int .i64 S.quota, .int .i64 ((S.used : Int) - w.length), .int .i64 S.L.length, .map (some bm)] 145 (.rw 0 [])) := by rw [← hh]; exact Hp.get_set_self _ _ _
    have s1 : ∀ k, k ≠ bs → ha.get k = h.get k := fun k hk => by rw [← hh]; exact Hp.get_set_ne hk
    have n1 : ha.next = h.next := by rw [← hh]; rfl
    have bne := t.ne
    obtain ⟨hb, e3, m3, n3, s3⟩ := (t.m.eq (s1 bm (Ne.symm bne))).del (t := 143) (kt := 3) (et := 146) (P := kon.P) (by kernel_rfl) (keyI_ok Tryd.underlying3) u
    unfold keyI at e3
    have r1 := rowOf_rw g1
    repeat' (first | simp only [evr, nextP_norm, evd, evq, beq_self_eq_true, cond_true, cond_false, reduceIte, Nat.reduceEqDiff, Nat.reduceAdd, Int.reduceBNe, Int.reduceBEq, Int.reduceLT, Int.reduceLE, Int.reduceEq, evh, evp, Nat.reduceLeDiff, Nat.reduceSub, Nat.reduceBEq, typs, hgt, hrow, hg, w1, hh, r1, P_delete, kDel, e3] | refine kCond2_by (fun hc => ?_) (fun hc => ?_) <;> try simp only [hc] | refine kPick_by (fun hc => ?_) (fun hc => ?_) <;> try simp only [hc] | refine kWant_by (fun hc => ?_) (fun hc => ?_) <;> try simp only [hc])
    refine ⟨F, ⟨bm, ws, t.setR hr (fun _ h => h) (fun j hj => by rw [n3, n1]; exact t.lt j hj) (t.ok.del hr) rfl (fun _ _ => rfl) t.nd t.nF ?_ ?_ (fun i b _ _ hb1 hb2 => ?_) (fun w' e => by cases e)⟩, by rw [n3, n1]; exact Nat.le_refl _, fun j _ hj => ?_, fun _ hj => .inl hj⟩
    · rw [s3 bs bne, g1]
      have : ((S.setR u none).used : Int) = (S.used : Int) - w.length := by omega
      rw [this]
    · rw [roomV_del hr]; exact m3
    · rw [s3 b hb2, s1 b hb1]
    · rw [s3 j (fun e => hj (e ▸ t.own.2)), s1 j (fun e => hj (e ▸ t.own.1))]
theorem resize_cells (w : List Int) (n : Nat) : splice (wdC (List.replicate n 0)) 0 (wdC (w.take (Nat.min w.length n))) = wdC (Sto.resizeL w n) := by
  have e1 : w.take (Nat.min w.length n) = w.take n := by
    by_cases h : w.length ≤ n
    · rw [show Nat.min w.length n = w.length from Nat.min_eq_left h, List.take_length, List.take_of_length_le h]
    · rw [show Nat.min w.length n = n from Nat.min_eq_right (by omega)]
  rw [e1]
  unfold splice Sto.resizeL wdC
  simp only [List.take_zero, List.nil_append, Nat.zero_add, List.length_map, List.length_take, List.map_append, List.map_replicate]
  rw [List.drop_replicate]
  congr 2
  omega
theorem nodup_set {α : Type} : ∀ {l : List α} {i : Nat} {x : α}, l.Nodup → x ∉ l → (l.set i x).Nodup
  | [], i, x, _, _ => by simp
  | a :: l, 0, x, h, hx => by
    rw [List.nodup_cons] at h
    simp only [List.set_cons_zero, List.nodup_cons]
    exact ⟨fun e => hx (List.mem_cons_of_mem _ e), h.2⟩
  | a :: l, i + 1, x, h, hx => by
    rw [List.nodup_cons] at h
    simp only [List.set_cons_succ, List.nodup_cons]
    refine ⟨fun e => ?_, nodup_set h.2 fun e => hx (List.mem_cons_of_mem _ e)⟩
    rcases List.mem_or_eq_of_mem_set e with e | e
    · exact h.1 e
    · exact hx (e ▸ List.mem_cons_self ..)
theorem resize_copy {H : Hp} {b bd n c : Nat} {w : List Int} (hb : H.get b = some (.row (wdC w) 222 (.rw 0 []))) (hd : H.get bd = some (.row (wdC (List.replicate n 0)) 222 (.rw 0 []))) :
    ∃ H2, evCopy kon.P 146 (.slice (some ⟨bd, 0, none⟩) n (2 * n)) (.slice (some ⟨b, 0, none⟩) w.length c) H = some (.int .i64 (Nat.min w.length n : Nat), H2) ∧ H2.get bd = some (.row (wdC (Sto.resizeL w n)) 222 (.rw 0 [])) ∧
      (∀ j, j ≠ bd → H2.get j = H.get j) ∧ H2.next = H.next := by
  have hk : Nat.min w.length n ≤ w.length := Nat.min_le_left _ _
  have hk2 : Nat.min w.length n ≤ n := Nat.min_le_right _ _
  have hc : evCells 1 (Nat.min w.length n) (.slice (some ⟨b, 0, none⟩) w.length c) H = some (wdC (w.take (Nat.min w.length n))) := by
    show (bif Nat.min w.length n * 1 == 0 then some [] else (rowOf H b).bind fun cs => bif decide (0 + Nat.min w.length n * 1 ≤ cs.length) then some ((cs.drop 0).take (Nat.min w.length n * 1)) else none) = _
    rw [rowOf_rw hb]
    by_cases hz : Nat.min w.length n = 0
    · rw [hz]; rfl
    · have e : (Nat.min w.length n * 1 == 0) = false := beq_eq_false_iff_ne.2 (by rw [Nat.mul_one]; exact hz)
      rw [e]
      have e2 : decide (0 + Nat.min w.length n * 1 ≤ (wdC w).length) = true := by simp [wdC]; exact hk
      rw [cond_false, Option.bind_some, e2, cond_true, List.drop_zero, Nat.mul_one]
      unfold wdC; rw [List.map_take]
  have hcell : (wdC (w.take (Nat.min w.length n))).all isCell = true := by
    rw [List.all_eq_true]; intro x hx
    obtain ⟨y, _, rfl⟩ := List.mem_map.1 hx; rfl
  have := copy_at (P := kon.P) (t := 146) (e := 222) (n := 1) (by kernel_rfl) (by kernel_rfl) (dl := n) (c := 2 * n) (s := .slice (some ⟨b, 0, none⟩) w.length c) (sl := w.length) hd rfl hc (by unfold wdC; rw [List.length_map, List.length_map, List.length_take, List.length_replicate]; omega) hcell
  rw [resize_cells] at this
  refine ⟨_, this, ?_, fun j hj => ?_, ?_⟩
  · cases he : (wdC (w.take (Nat.min w.length n))).isEmpty with
    | false => exact Hp.get_set_self _ _ _
    | true =>
      simp only [cond_true]
      rw [hd]
      have h0 : (wdC (w.take (Nat.min w.length n))) = [] := List.isEmpty_iff.1 he
      rw [← resize_cells, h0]
      simp [splice]
  · cases he : (wdC (w.take (Nat.min w.length n))).isEmpty with
    | false => exact Hp.get_set_ne hj
    | true => rfl
  · cases he : (wdC (w.take (Nat.min w.length n))).isEmpty with
    | false => rfl
    | true => rfl
theorem sResize_spec (t : StoAt h F S bs) (u n : Int) (hq : S.quota ≤ 9223372036854775807) : Meets kon 66 [ptrV bs, .int .i64 u, .int .i64 n] h fun v h' => v = .int .i64 (S.resize u n).2 ∧ ∃ F', StoAt h' F' (S.resize u n).1 bs ∧ Upd h F h' F' := by
  obtain ⟨bm, ws, t⟩ := t
  have hgt := (sGet_spec t u).call
  have hrow := rowOf_rw t.row
  have hg := t.row
  unfold getV ptrV at hgt
  unfold ptrV
  refine Meets.mk rfl (by kernel_rfl) Tryd.func66 rfl (congrArg Array.toList Tryd.results66) ?_
  have stay : ∀ e, S.resize u n = (S, e) → ∃ F', StoAt h F' (S.resize u n).1 bs ∧ Upd h F h F' := fun e he => by
    rw [he]; exact ⟨F, ⟨bm, ws, t⟩, Nat.le_refl _, fun _ _ _ => rfl, fun _ hk => .inl hk⟩
  cases hr : S.room u with
  | none =>
    have e2 : S.resize u n = (S, 4) := by unfold Sto.resize; rw [hr]
    rw [roomV_none hr] at hgt
    repeat' (first | simp only [evr, nextP_norm, evd, evq, beq_self_eq_true, cond_true, cond_false, reduceIte, Nat.reduceEqDiff, Nat.reduceAdd, Int.reduceBNe, Int.reduceBEq, Int.reduceLT, Int.reduceLE, Int.reduceEq, evh, evp, Nat.reduceLeDiff, Nat.reduceSub, Nat.reduceBEq, typs, hgt] | refine kCond2_by (fun hc => ?_) (fun hc => ?_) <;> try simp only [hc] | refine kPick_by (fun hc => ?_) (fun hc => ?_) <;> try simp only [hc] | refine kWant_by (fun hc => ?_) (fun hc => ?_) <;> try simp only [hc])
    exact ⟨by rw [e2], stay _ e2⟩
  | some w =>
    obtain ⟨b, h1, h2, hFb, hgb, hbs, hbm⟩ := t.at hr
    rw [h2] at hgt
    unfold slW at hgt
    have u0 := t.ok.used
    have u1 := Sto.used_le hr
    have hm := (sMay_spec t n w.length (by omega) (by omega) hq).call
    unfold ptrV at hm
    by_cases he : S.mayE n w.length = 0
    · have e2 : S.resize u n = (S.setR u (some (Sto.resizeL w n.toNat)), 0) := by unfold Sto.resize; rw [hr]; simp only [he, if_true]
      obtain ⟨m1, m2, m3⟩ := Sto.mayE_zero he
      rw [e2]
      rw [he] at hm
      obtain ⟨k, rfl⟩ := Int.eq_ofNat_of_zero_le m1
      have hrl := Sto.resizeL_len w k
      have u2 := Sto.used_setR hr (some (Sto.resizeL w k))
      simp only [Sto.lenO, hrl] at u2
      have hmk := L_make (C := kon) (t := 146) (e := 222) (n := 1) (by_ := 8) (z := .int .u64 0) (zs := [.int .u64 0]) (by kernel_rfl) (by kernel_rfl) (by kernel_rfl) (by kernel_rfl) rfl (by kernel_rfl) k (by omega)
      rw [wdC_zero] at hmk
      generalize ho : h.push (.row (wdC (List.replicate k 0)) 222 (.rw 0 [])) = hn
      have blt := t.lt _ hFb
      have p1 : ∀ j, j < h.next → hn.get j = h.get j := fun j hj => by rw [← ho]; exact Hp.get_push_lt hj
      have p2 : hn.get h.next = some (.row (wdC (List.replicate k 0)) 222 (.rw 0 [])) := by rw [← ho]; exact Hp.get_push_self _ _
      have p3 : hn.next = h.next + 1 := by rw [← ho]; rfl
      obtain ⟨h2', c1, c2, c3, c4⟩ := resize_copy (H := hn) (b := b) (bd := h.next) (n := k) (c := 2 * w.length) (w := w) (by rw [p1 b blt]; exact hgb) p2
      have slt := t.lt _ t.own.1
      have mlt := t.lt _ t.own.2
      have bne := t.ne
      obtain ⟨h3, e3, m3', n3, s3⟩ := (t.m.eq (h' := h2') (by rw [c3 bm (by omega), p1 bm mlt])).put (t := 143) (kt := 3) (et := 146) (P := kon.P) (by kernel_rfl) (keyI_ok Tryd.underlying3) u (slW h.next k)
      unfold keyI idV slW at e3
      have g2 : h2'.get bs = some (.row [.int .i64 S.quota, .int .i64 S.used, .int .i64 S.L.length, .map (some bm)] 145 (.rw 0 [])) := by rw [c3 bs (by omega), p1 bs slt]; exact hg
      have g3 : h3.get bs = some (.row [.int .i64 S.quota, .int .i64 S.used, .int .i64 S.L.length, .map (some bm)] 145 (.rw 0 [])) := by rw [s3 bs bne]; exact g2
      have r2 := rowOf_rw g2
      have r3 := rowOf_rw g3
      have w1 := wrap64 (x := (k : Int) - w.length) (by omega) (by omega)
      have w2 := wrap64 (x := (S.used : Int) + ((k : Int) - w.length)) (by omega) (by omega)
      repeat' (first | simp only [evr, nextP_norm, evd, evq, beq_self_eq_true, cond_true, cond_false, reduceIte, Nat.reduceEqDiff, Nat.reduceAdd, Int.reduceBNe, Int.reduceBEq, Int.reduceLT, Int.reduceLE, Int.reduceEq, evh, evp, Nat.reduceLeDiff, Nat.reduceSub, Nat.reduceBEq, typs, hgt, hm, hmk, ho, P_copy, c1, r2, e3, r3, g3, w1, w2] | refine kCond2_by (fun hc => ?_) (fun hc => ?_) <;> try simp only [hc] | refine kPick_by (fun hc => ?_) (fun hc => ?_) <;> try simp only [hc] | refine kWant_by (fun hc => ?_) (fun hc => ?_) <;> try simp only [hc])
      generalize hh : h3.set bs _ = h4
      have g4 : h4.get bs = some (.row [.int .i64 S.quota, .int .i64 (S.used + ((k : Int) - w.length)), .int .i64 S.L.length, .map (some bm)] 145 (.rw 0 [])) := by rw [← hh]; exact Hp.get_set_self _ _ _
      have s4 : ∀ k, k ≠ bs → h4.get k = h3.get k := fun k hk => by rw [← hh]; exact Hp.get_set_ne hk
      have n4 : h4.next = h.next + 1 := by rw [← hh]; show h3.next = _; rw [n3, c4, p3]
      clear hh
      have old : ∀ j, j < h.next → j ≠ bs → j ≠ bm → h4.get j = h.get j := fun j h1 h2 h3' => by rw [s4 j h2, s3 j h3', c3 j (by omega), p1 j h1]
      refine ⟨fun j => F j ∨ j = h.next, ⟨bm, ws.set (u.toNat - 1) h.next, t.setR hr (fun _ h => .inl h) (fun j hj => ?_) (t.ok.set hr (by rw [hrl]; omega) (by rw [hrl]; omega) (Sto.resizeL_words (t.ok.words u w hr) k)) (by simp) (fun i hi => List.getElem?_set_ne (Ne.symm hi)) ?_ (fun j hj => ?_) ?_ ?_ (fun i j _ hi hb1 hb2 => ?_) (fun w' e => ?_)⟩,
        ⟨by omega, fun j h1 h2 => old j h1 (fun e => h2 (e ▸ t.own.1)) (fun e => h2 (e ▸ t.own.2)), fun j hj => hj.imp id (fun e => by omega)⟩⟩
      · rcases hj with hj | hj
        · have := t.lt j hj; omega
        · omega
      · refine nodup_set t.nd ?_
        intro hx
        have := t.lt _ (t.nF _ hx); omega
      · rcases List.mem_or_eq_of_mem_set hj with hj | hj
        · exact .inl (t.nF j hj)
        · exact .inr hj
      · have : ((S.setR u (some (Sto.resizeL w k))).used : Int) = S.used + ((k : Int) - w.length) := by omega
        show h4.get bs = some (.row [.int .i64 S.quota, .int .i64 ((S.setR u (some (Sto.resizeL w k))).used : Nat), .int .i64 S.L.length, .map (some bm)] 145 (.rw 0 []))
        rw [g4, this]
      · have hl : u.toNat - 1 < ws.length := by rw [t.len]; exact (Sto.room_some hr).2.1
        rw [roomV_set hr h.next hl]
        show MapIs keyI idV h4 bm (upd (roomV S ws) u (some (slW h.next (Sto.resizeL w k).length)))
        rw [hrl]
        exact m3'.eq (s4 bm (Ne.symm bne))
      · exact old j (t.lt _ (t.nF _ (List.mem_of_getElem? hi))) hb1 hb2
      · cases e
        have hl : u.toNat - 1 < ws.length := by rw [t.len]; exact (Sto.room_some hr).2.1
        refine ⟨h.next, by simp [hl], ?_⟩
        rw [s4 _ (by omega), s3 _ (by omega)]
        exact c2
    · have e2 : S.resize u n = (S, S.mayE n w.length) := by unfold Sto.resize; rw [hr]; simp only [he, if_false]
      have e1 : (S.mayE n w.length != 0) = true := by simp [he]
      repeat' (first | simp only [evr, nextP_norm, evd, evq, beq_self_eq_true, cond_true, cond_false, reduceIte, Nat.reduceEqDiff, Nat.reduceAdd, Int.reduceBNe, Int.reduceBEq, Int.reduceLT, Int.reduceLE, Int.reduceEq, evh, evp, Nat.reduceLeDiff, Nat.reduceSub, Nat.reduceBEq, typs, hgt, hm, e1] | refine kCond2_by (fun hc => ?_) (fun hc => ?_) <;> try simp only [hc] | refine kPick_by (fun hc => ?_) (fun hc => ?_) <;> try simp only [hc] | refine kWant_by (fun hc => ?_) (fun hc => ?_) <;> try simp only [hc])
      exact ⟨by rw [e2], stay _ e2⟩
end
end Go.Proofs.YtncmgiddcefpcaaDoor
