/- tree.Names in the true semantics: the names of a directory, sorted, whatever order the map is ranged over. -/
import Derived.Test.YtncmgiddcefpcaaGreatDoorProg
import Derived.Test.YtncmgiddcefpcaaGreatDoorEvM4
import Derived.Maps.RangeWalk
import Derived.Sort.OwnSorted
import Derived.WalkKit
import Derived.ProofKit
import Derived.OpenShut
import Derived.Maps.AppendAt
import Derived.Laws.Cover1
namespace Go.Proofs.YtncmgiddcefpcaaGreatDoor
open Go Go.Ev Go.RowKit Go.Sort Go.Proofs
set_option linter.unusedSimpArgs false
set_option linter.unusedVariables false
set_option maxRecDepth 100000

theorem nan_walk (x : ByteArray) (w : World) : Calls Tryz.prog 113 #[.string x] w fun e w' => e = .returned (.bool false) ∧ w' = w := by
  go_enter Tryz.func113, Tryz.ntmps113
  go_wp2
  all_goals go_ret
  all_goals exact ⟨by simp, rfl⟩
theorem cb_cases : ∀ x y : List UInt8, (Lib.compareBytes x y = -1 ∧ x ≠ y) ∨ (Lib.compareBytes x y = 0 ∧ x = y) ∨ (Lib.compareBytes x y = 1 ∧ x ≠ y)
  | [], [] => by simp [Lib.compareBytes]
  | [], b :: y => by simp [Lib.compareBytes]
  | a :: x, [] => by simp [Lib.compareBytes]
  | a :: x, b :: y => by
    unfold Lib.compareBytes
    by_cases h1 : a < b
    · have : a ≠ b := by rintro rfl; exact absurd h1 (UInt8.lt_irrefl a)
      simp [h1, this]
    · by_cases h2 : b < a
      · have : a ≠ b := by rintro rfl; exact h1 h2
        simp [h1, h2, this]
      · have : a = b := UInt8.le_antisymm (UInt8.not_lt.1 h2) (UInt8.not_lt.1 h1)
        subst this
        simpa [h1] using cb_cases x y
theorem cmp_walk (x y : ByteArray) (w : World) : Calls Tryz.prog 102 #[.string x, .string y] w fun e w' => e = .returned (.int .i64 (Lib.compareBytes x.data.toList y.data.toList)) ∧ w' = w := by
  have hb : ∀ a b : ByteArray, Op.bytesLess a.toList b.toList = decide (Lib.compareBytes a.data.toList b.data.toList < 0) := fun a b => by
    rw [ByteArray.toList_eq, ByteArray.toList_eq, bytesLess_lt, Bool.eq_iff_iff]; simp [Go.Con.cmp_lt]
  go_enter Tryz.func102, Tryz.ntmps102
  go_wp2_with (go_at_call 113; refine (nan_walk _ _).mono ?_; rintro e w' ⟨rfl, hw⟩; rw [hw])
  all_goals go_ret
  all_goals refine ⟨?_, rfl⟩
  all_goals rcases cb_cases x.data.toList y.data.toList with ⟨h, e⟩ | ⟨h, e⟩ | ⟨h, e⟩
  all_goals simp_all [ByteArray.toList_eq]
theorem clos_walk (x y : ByteArray) (w : World) : Calls Tryz.prog 101 #[.string x, .string y] w fun e w' => e = .returned (.int .i64 (Lib.compareBytes x.data.toList y.data.toList)) ∧ w' = w := by
  have hcon := cmp_walk x y w
  generalize Lib.compareBytes x.data.toList y.data.toList = r at hcon ⊢
  go_enter Tryz.func101, Tryz.ntmps101
  go_wp2_with (go_at_call 102; refine hcon.mono ?_; rintro e w' ⟨rfl, rfl⟩)
  go_ret
  exact ⟨rfl, rfl⟩

/-! ### ranging over a map, raw -/
section
variable {P : Program} (w : World) {ops : Array Oper} {rest : List Oper} {o : Oper} {a : Act} {Q : Exit → Act → World → Prop}
theorem wl_range (hg : o.guard = none) (m : Operand) (t k e : TypeId) (hop : o.op = Op.range t m) (ht : P.underlying t = some (.map k e)) (b : Nat) (es : Array MapEntry) (ck : Nat) (hm : a.eval m = .map (some b)) (hb : w.heap[b]? = some (.map es ck))
    (hK : wpList P ops Q rest (a.put o.dst (.pointer (some ⟨w.heap.size, 0, none⟩))) (w.alloc (.mapIter (some b) ck #[] ck))) : wpList P ops Q (o :: rest) a w := by
  refine wpList_plain hg fun K' hK' => ?_
  unfold Oper.wp
  simp [execOp, hop, hm, run_range_map w t k e b es ck ht hb, Result.andThen]
  exact hK' _ _ hK
def Drawn (w w1 : World) : Prop := w1 = w ∨ w1 = w.drew
theorem wl_next (hg : o.guard = none) (it : Operand) (hop : o.op = Op.next it false) (r b since c0 : Nat) (seen : Array Nat) (es : Array MapEntry) (ck : Nat) (hit : a.eval it = .pointer (some ⟨r, 0, none⟩))
    (hr : w.heap[r]? = some (.mapIter (some b) since seen c0)) (hb : w.heap[b]? = some (.map es ck)) (hold : ∀ x ∈ es.toList, x.born < since) (hsc : since ≤ c0)
    (hDone : (leftOf es seen).size = 0 → wpList P ops Q rest (a.put o.dst (.tuple #[.bool false])) w)
    (hMore : ∀ e ∈ (leftOf es seen).toList, ∀ w1 : World, Drawn w w1 → wpList P ops Q rest (a.put o.dst (.tuple #[.bool true, e.key, e.val])) (Go.ChangeMaps.setBlock w1 r (.mapIter (some b) since (seen.push e.born) ck))) :
    wpList P ops Q (o :: rest) a w := by
  refine wpList_plain hg fun K' hK' => ?_
  unfold Oper.wp
  rcases run_next_at (P := P) w o.type r b since c0 seen es ck hr hb hold hsc with ⟨h0, hrun⟩ | ⟨e, he, w1, h1, hrun⟩
  · simp [execOp, hop, hit, hrun, Result.andThen]
    exact hK' _ _ (hDone h0)
  · simp [execOp, hop, hit, hrun, Result.andThen]
    exact hK' _ _ (hMore e he w1 h1)
end

/-- A name of the directory. -/
def nameOf (d : Int) (e : MapEntry) : Option (List UInt8) := match keyName d e.key with
  | some (some s) => some s
  | _ => none
theorem namesE_spec {d : Int} : ∀ {es : List MapEntry} {ns : List (List UInt8)}, namesE d es = some ns → ns = es.filterMap (nameOf d) ∧ ∀ e ∈ es, ∃ x s, e.key = .agg #[.int .i64 x, .string s]
  | [], ns, h => by cases h; exact ⟨rfl, by simp⟩
  | e :: es, ns, h => by
    unfold namesE at h
    have hk : ∀ o, keyName d e.key = some o → ∃ x s, e.key = .agg #[.int .i64 x, .string s] := fun o ho => by
      unfold keyName at ho
      split at ho
      · rename_i cs hcs
        split at ho
        · rename_i x s hl
          refine ⟨x, s, ?_⟩
          rw [hcs]
          congr 1
          cases cs; simp at hl; rw [hl]
        · cases ho
      · cases ho
    cases hn : keyName d e.key with
    | none => rw [hn] at h; cases h
    | some o =>
      rw [hn] at h
      cases o with
      | none =>
        obtain ⟨h1, h2⟩ := namesE_spec h
        refine ⟨by rw [List.filterMap_cons, nameOf, hn]; exact h1, fun x hx => ?_⟩
        rcases List.mem_cons.1 hx with rfl | hx
        · exact hk _ hn
        · exact h2 x hx
      | some s =>
        obtain ⟨l, hl, rfl⟩ := Option.map_eq_some_iff.1 h
        obtain ⟨h1, h2⟩ := namesE_spec hl
        refine ⟨by rw [List.filterMap_cons, nameOf, hn]; simp only; rw [h1], fun x hx => ?_⟩
        rcases List.mem_cons.1 hx with rfl | hx
        · exact hk _ hn
        · exact h2 x hx
theorem nameOf_key {d : Int} {e : MapEntry} {x : Int} {s : ByteArray} (h : e.key = .agg #[.int .i64 x, .string s]) : nameOf d e = if x = d then some s.data.toList else none := by
  unfold nameOf keyName
  rw [h]
  by_cases hx : x = d <;> simp [hx]

theorem left_none {es : Array MapEntry} {seen : Array Nat} (h : (leftOf es seen).size = 0) : ∀ e ∈ es.toList, e.born ∈ seen.toList := fun e he => by
  refine Decidable.byContradiction fun hn => ?_
  have hm : e ∈ (leftOf es seen).toList := by
    unfold leftOf
    simp only [Array.toList_filter, List.mem_filter]
    exact ⟨he, by simpa using hn⟩
  have : (leftOf es seen).toList.length = 0 := by rw [Array.length_toList]; exact h
  rw [List.length_eq_zero_iff.1 this] at hm
  cases hm
theorem left_mem {es : Array MapEntry} {seen : Array Nat} {e : MapEntry} (h : e ∈ (leftOf es seen).toList) : e ∈ es.toList ∧ e.born ∉ seen.toList := by
  unfold leftOf at h
  simp only [Array.toList_filter, List.mem_filter] at h
  exact ⟨h.1, by simpa using h.2⟩
theorem left_less {es : Array MapEntry} {seen : Array Nat} {e : MapEntry} (h : e ∈ (leftOf es seen).toList) : (leftOf es (seen.push e.born)).size < (leftOf es seen).size := by
  rw [← Array.length_toList, ← Array.length_toList]
  obtain ⟨h1, h2⟩ := left_mem h
  unfold leftOf at h ⊢
  rw [Array.toList_filter, Array.toList_filter] at *
  have e1 : (es.toList.filter fun x => !(seen.push e.born).contains x.born) = (es.toList.filter fun x => !seen.contains x.born).filter fun x => !(x.born == e.born) := by
    rw [List.filter_filter]
    apply List.filter_congr
    intro x _
    rw [Bool.eq_iff_iff]
    simp [Array.mem_push, and_comm]
  rw [e1]
  exact List.length_filter_lt_length_iff_exists.2 ⟨e, h, by simp⟩
/-- The round's measure. -/
def leftW (es : Array MapEntry) (r : Nat) (w : World) : Nat := match w.heap[r]? with
  | some (.mapIter _ _ seen _) => (leftOf es seen).size
  | _ => 0
theorem collected_perm {es : List MapEntry} {el : List MapEntry} (hes : (es.map (·.born)).Nodup) (hel : (el.map (·.born)).Nodup) (hsub : ∀ e ∈ el, e ∈ es) (hall : ∀ e ∈ es, e.born ∈ el.map (·.born)) : el.Perm es := by
  have n1 : el.Nodup := by
    refine List.Pairwise.imp ?_ (List.pairwise_map.1 hel)
    intro a b h e
    exact h (by rw [e])
  have n2 : es.Nodup := by
    refine List.Pairwise.imp ?_ (List.pairwise_map.1 hes)
    intro a b h e
    exact h (by rw [e])
  refine (List.perm_ext_iff_of_nodup n1 n2).2 fun a => ⟨hsub a, fun ha => ?_⟩
  obtain ⟨b, hb, hab⟩ := List.mem_map.1 (hall a ha)
  have := Go.Con.Hi.nodup_inj hes (hsub b hb) ha hab
  rw [← this]; exact hb

def SortedW (w : World) (blk : Nat) (ts : List (List UInt8)) (w' : World) : Prop := ∃ n os, w' = grow (putRow encStr (Sort.ahead w n) blk 0 ts.toArray) os
/-- What the library's sort does to a row of texts. -/
def SortOK : Prop := ∀ (blk cap : Nat) (ss : List (List UInt8)) (w : World) (cur : Array Value), w.heap[blk]? = some (.cells cur 9 (0, 0)) → cur.toList.take ss.length = ss.map encStr → ss.length ≤ cap → ss.length < 4611686018427387904 →
  Calls Tryz.prog 100 #[.slice (some ⟨blk, 0, none⟩) ss.length cap, .func (.func 101) #[] #[]] w fun e w' => e = .returned (.tuple #[]) ∧ SortedW w blk (sortB ss) w'
def SortNil : Prop := ∀ (w : World), Calls Tryz.prog 100 #[.slice none 0 0, .func (.func 101) #[] #[]] w fun e w' => e = .returned (.tuple #[]) ∧ Below w.heap.size w w'

set_option maxHeartbeats 400000 in
theorem names_walk (HS : SortOK) (HN : SortNil) : NamesOK Tryz.prog 73 9 := by
  intro tb bm es ck d ns w hcell hb hnd hborn hsz hns
  obtain ⟨hns, hkey⟩ := namesE_spec hns
  obtain ⟨i0, hi, hz0, hz1, hz2⟩ := info_parts (P := Tryz.prog) (e := 9) (z := .string ⟨#[]⟩) (size := 1) (bytes := 16) (by kernel_rfl)
  have hbl : bm < w.heap.size := (Array.getElem?_eq_some_iff.1 hb).1
  go_enter Tryz.func73, Tryz.ntmps73
  go_wp2_with (first
    | (at_range; refine wl_range _ rfl _ _ _ _ rfl Tryz.underlying88 bm es ck rfl hb ?_)
    | go_in)
  go_frame
  go_loopw [5] (fun v wr => ∃ (el : List MapEntry) (seen : Array Nat) (c0 : Nat), wr.heap[w.heap.size]? = some (.mapIter (some bm) ck seen c0) ∧ ck ≤ c0 ∧ seen.toList = el.map (·.born) ∧ (el.map (·.born)).Nodup ∧ (∀ e ∈ el, e ∈ es.toList) ∧
      wr.heap[bm]? = some (.map es ck) ∧ el.length + (leftOf es seen).size ≤ es.size ∧ wr.ownsRow (w.heap.size + 1) 9 1 v (el.filterMap (nameOf d)).length ((el.filterMap (nameOf d)).map encStr) ∧ ((el.filterMap (nameOf d)).length = 0 → v = .slice none 0 0) ∧ Below w.heap.size w wr)
    (fun _ wr => leftW es w.heap.size wr)
  case atStart =>
    refine ⟨[], #[], ck, by show (w.heap.push _)[w.heap.size]? = _; simp, Nat.le_refl _, rfl, by simp, by simp, ?_, ?_, ⟨rfl, .inl ⟨rfl, rfl⟩⟩, fun _ => rfl, (Below.refl _ _).alloc (Nat.le_refl _) _⟩
    · rw [Below.heap_alloc _ _ _ hbl]; exact hb
    · unfold leftOf; simp; exact Array.size_filter_le
  case round =>
    obtain ⟨el, seen, c0, hr, hc0, hseen, hel, hsub, hb1, hlen, hrow, hvn, hbel⟩ := hrel
    go_wp2_with (first
      | (at_next; refine wl_next _ rfl _ rfl w.heap.size bm ck c0 seen es ck rfl hr hb1 hborn hc0 ?_ ?_)
      | go_in)
    · intro h0
      have h1 := left_none (es := es) (seen := seen) (by rw [h0]; rfl)
      rw [hseen] at h1
      have hperm := (collected_perm hnd hel hsub h1).filterMap (nameOf d)
      rw [← hns] at hperm
      have hnl : (el.filterMap (nameOf d)).length = ns.length := hperm.length_eq
      have hsort : sortB (el.filterMap (nameOf d)) = sortB ns := sortB_uniq ((sortB_perm _).trans hperm) (sortB_sorted _)
      have hsl : (sortB ns).length = ns.length := (sortB_perm ns).length_eq
      have hell : (el.filterMap (nameOf d)).length ≤ el.length := List.length_filterMap_le _ _
      generalize el.filterMap (nameOf d) = ss at hrow hperm hnl hsort hell hvn
      rcases hrow.2 with ⟨rfl, hn0⟩ | ⟨g, cap, cur, rfl, hbase, hb, k1, k2, k3, k4⟩
      · have hnil : ns = [] := List.length_eq_zero_iff.1 (by omega)
        have hc := HN wr
        go_wp2_with (go_at_call 100; refine hc.mono ?_; rintro e w' ⟨rfl, hbw⟩)
        go_ret
        exact ⟨hbel.trans (hbw.mono hbel.size), .inl ⟨hnil, rfl⟩⟩
      · have hc := HS g cap ss wr cur hb (by simpa using k4) k1 (by omega)
        rw [hsort] at hc
        have pk : Nonempty (PLift (ss.length = ns.length ∧ (sortB ns).length = ns.length ∧ cur.size = cap * 1 ∧ cur.toList.take (ss.length * 1) = ss.map encStr ∧ wr.heap[g]? = some (.cells cur 9 (0, 0)))) := ⟨⟨hnl, hsl, k3, k4, hb⟩⟩
        clear hns hnl hsl k3 k4 hsort hseen hb h0
        go_wp2_with (go_at_call 100; refine hc.mono ?_; rintro e w' ⟨rfl, hw'⟩)
        go_ret
        obtain ⟨nn, os, rfl⟩ := hw'
        obtain ⟨⟨hnl, hsl, k3, k4, hb⟩⟩ := pk
        have hfin := hbel.grown (grownBy_sorted (w := wr) (g := g) (n := nn) (os := os) (sortB ns).toArray) hbel.size (fun j hj => by cases hj; omega)
        refine ⟨hfin, ?_⟩
        have hheap := heap_sorted (n := nn) (os := os) (sortB ns).toArray hb
        by_cases hnz : ns = []
        · have := hvn (by rw [hnl, hnz]; rfl)
          cases this
        · refine .inr ⟨g, cap, _, by rw [← hnl]; rfl, hnz, by omega, by omega, hheap, by simp [putCells]; omega, ?_⟩
          have := take_putCells cur (sortB ns) (by omega)
          rw [hsl] at this
          exact this
    · intro e he w1 hw1
      have he := Array.mem_toList_iff.2 he
      obtain ⟨he1, he2⟩ := left_mem he
      obtain ⟨x, nm, hk⟩ := hkey e he1
      have hnm := nameOf_key (d := d) hk
      have hless := left_less he
      rw [hk]
      have hh : w1.heap = wr.heap := by rcases hw1 with rfl | rfl <;> rfl
      have hrl : w.heap.size < wr.heap.size := (Array.getElem?_eq_some_iff.1 hr).1
      have hr2 : (Go.ChangeMaps.setBlock w1 w.heap.size (.mapIter (some bm) ck (seen.push e.born) ck)).heap[w.heap.size]? = some (.mapIter (some bm) ck (seen.push e.born) ck) := by
        simp [Go.ChangeMaps.setBlock, hh, hrl]
      have hg12 : wr.grownBy (Go.ChangeMaps.setBlock w1 w.heap.size (.mapIter (some bm) ck (seen.push e.born) ck)) (some w.heap.size) := by
        refine ⟨by rcases hw1 with rfl | rfl <;> rfl, by rcases hw1 with rfl | rfl <;> rfl, by rcases hw1 with rfl | rfl <;> rfl, by simp [Go.ChangeMaps.setBlock, hh], fun k hk hne => ?_⟩
        have : w.heap.size ≠ k := fun e => hne (by rw [e])
        simp [Go.ChangeMaps.setBlock, hh, this]
      have hb2 := (hg12.block bm (by have := (Array.getElem?_eq_some_iff.1 hb1).1; exact this) (by simp; omega)).trans hb1
      have hen := run_entry_at (P := Tryz.prog) _ w.heap.size bm ck seen es ck e hr2 hb2 he1 hnd
      rw [hk] at hen
      have hbel2 := hbel.grown hg12 hbel.size (fun k e => by cases e; exact Nat.le_refl _)
      have hrow2 := hrow.kept hg12 (by
        rcases hrow.2 with ⟨rfl, _⟩ | ⟨g, cap, cur, rfl, hbase, _⟩
        · exact .inl rfl
        · right; simp [Value.ownBlock]; omega)
      have hlw : ∀ w' : World, w'.heap[w.heap.size]? = some (.mapIter (some bm) ck (seen.push e.born) ck) → leftW es w.heap.size w' < leftW es w.heap.size wr := fun w' h' => by
        unfold leftW; rw [h', hr]; exact hless
      have hcol : (seen.push e.born).toList = (el ++ [e]).map (·.born) := by simp [hseen]
      have hel2 : ((el ++ [e]).map (·.born)).Nodup := by
        rw [List.map_append, List.nodup_append]
        refine ⟨hel, by simp, fun a ha b hb => ?_⟩
        simp at hb
        subst hb
        rintro rfl
        rw [hseen] at he2
        exact he2 ha
      have hsub2 : ∀ y ∈ el ++ [e], y ∈ es.toList := fun y hy => by
        rcases List.mem_append.1 hy with hy | hy
        · exact hsub y hy
        · simp at hy; subst hy; exact he1
      have hlen2 : (el ++ [e]).length + (leftOf es (seen.push e.born)).size ≤ es.size := by rw [List.length_append, List.length_singleton]; omega
      have hell : (el.filterMap (nameOf d)).length ≤ el.length := List.length_filterMap_le _ _
      generalize Go.ChangeMaps.setBlock w1 w.heap.size (.mapIter (some bm) ck (seen.push e.born) ck) = w2 at hr2 hb2 hen hbel2 hrow2 ⊢
      have hrow3 := (hrow2.alloc (.cells #[.int .i64 x, .string nm] 149)).alloc (.cells #[.string nm] 9)
      have hsz2 := hbel2.size
      have hrl2 : w.heap.size < w2.heap.size := (Array.getElem?_eq_some_iff.1 hr2).1
      have hbl2 : bm < w2.heap.size := (Array.getElem?_eq_some_iff.1 hb2).1
      have hnew : ∀ (j : Nat) u, [Value.string nm][j]? = some u → ((w2.alloc (.cells #[.int .i64 x, .string nm] 149)).alloc (.cells #[.string nm] 9)).cell? ((⟨w2.heap.size + 1, 0, none⟩ : Addr).add j) = some u := by
        have h0 := cell_one_new (w2.alloc (.cells #[.int .i64 x, .string nm] 149)) (.string nm) 9
        have e1 : (w2.alloc (.cells #[.int .i64 x, .string nm] 149)).heap.size = w2.heap.size + 1 := by simp
        rw [e1] at h0
        exact h0
      clear hg12 hh hw1
      go_wp2_with (first
        | (at_builtin; refine wpList_append_own _ rfl _ _ 46 rfl (w.heap.size + 1) 9 i0 (.string ⟨#[]⟩) 1 16 Tryz.underlying46 hi hz0 hz1 hz2 rfl (by decide) _ _ _ rfl hrow3 ⟨w2.heap.size + 1, 0, none⟩ 1 1 [.string nm] rfl rfl hnew (fun x hx => by simp at hx; subst hx; rfl) (by unfold maxLen; omega) (by omega) (by simp; omega) ?_; intro v' w3 hown' hgrow3 hnil3)
        | go_in)
      · rename_i hxd
        have hgrow4 : ((w2.alloc (.cells #[.int .i64 x, .string nm] 149)).alloc (.cells #[.string nm] 9)).grownBy w3 (Value.ownBlock u5) := hgrow3
        have hown2 : Value.ownBlock u5 = none ∨ ∃ g, Value.ownBlock u5 = some g ∧ w.heap.size + 1 ≤ g := by
          rcases hrow.2 with ⟨rfl, _⟩ | ⟨g, cap, cur, rfl, hbase, _⟩
          · exact .inl rfl
          · exact .inr ⟨g, rfl, hbase⟩
        have hne : ∀ k, k ≤ w.heap.size → some k ≠ Value.ownBlock u5 := fun k hk e => by
          rcases hown2 with h | ⟨g, h, hg⟩
          · rw [h] at e; cases e
          · rw [h] at e; cases e; omega
        have hold : ∀ k, k ≤ w.heap.size → k < w2.heap.size → w3.heap[k]? = w2.heap[k]? := fun k hk hk2 => by
          rw [hgrow4.block k (by simp; omega) (hne k hk), Below.heap_alloc _ _ _ (by simp; omega), Below.heap_alloc _ _ _ hk2]
        have hr3 := (hold _ (Nat.le_refl _) hrl2).trans hr2
        have hb3 := (hold bm (by omega) hbl2).trans hb2
        have hfm : (el ++ [e]).filterMap (nameOf d) = el.filterMap (nameOf d) ++ [nm.data.toList] := by
          rw [List.filterMap_append]
          congr 1
          rw [List.filterMap_cons, hnm, if_pos (by simpa using hxd)]; rfl
        refine ⟨⟨el ++ [e], _, ck, hr3, Nat.le_refl _, hcol, hel2, hsub2, hb3, hlen2, ?_, ?_, ?_⟩, hlw _ hr3⟩
        · rw [hfm, List.length_append, List.map_append]
          simpa [encStr] using hown'
        · rw [hfm]; simp
        · exact ((hbel2.alloc (by omega) _).alloc (by simp; omega) _).grown hgrow4 (by simp; omega) (fun k hk => by
            rcases hown2 with h | ⟨g, h, hg⟩
            · rw [h] at hk; cases hk
            · rw [h] at hk; cases hk; omega)
      · rename_i hxd
        have hr3 := (Below.heap_alloc w2 (.cells #[.int .i64 x, .string nm] 149) _ hrl2).trans hr2
        have hb3 := (Below.heap_alloc w2 (.cells #[.int .i64 x, .string nm] 149) _ hbl2).trans hb2
        have hfm : (el ++ [e]).filterMap (nameOf d) = el.filterMap (nameOf d) := by
          rw [List.filterMap_append, List.filterMap_cons, hnm, if_neg (by simpa using hxd)]; simp
        refine ⟨⟨el ++ [e], _, ck, hr3, Nat.le_refl _, hcol, hel2, hsub2, hb3, hlen2, ?_, ?_, hbel2.alloc (by omega) _⟩, hlw _ hr3⟩
        · rw [hfm]; exact hrow2.alloc _
        · rw [hfm]; exact hvn
end Go.Proofs.YtncmgiddcefpcaaGreatDoor
