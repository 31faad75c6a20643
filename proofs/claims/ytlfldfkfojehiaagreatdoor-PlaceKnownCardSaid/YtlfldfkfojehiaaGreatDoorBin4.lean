/- Texts joined: what the claim needs of them. No condition. -/
import Derived.Test.YtlfldfkfojehiaaGreatDoorProg
import Derived.Test.YtlfldfkfojehiaaGreatDoorBin3
import Derived.Maps.RangeWalk
import Derived.Sort.OwnSorted
import Derived.WalkKit
import Derived.ProofKit
import Derived.OpenShut
import Derived.Maps.AppendAt
import Derived.Laws.Cover1
import Derived.Shelf.Small.Bits
import Derived.Shelf.Small.Strs
import Derived.Shelf.Utf8.RuneCount
import Derived.Shelf.Strconv.Itoa0
import Derived.Shelf.Strings.Search1
import Derived.Shelf.Strings.Search2
import Derived.Shelf.Strings.Search3
import Derived.Shelf.Strings.Count
import Derived.Shelf.LaysM
import Derived.Shelf.Strings.Shaped
import Derived.Shelf.Strings.Prefix
import Derived.Shelf.Strings.Split
import Derived.Shelf.Strings.SplitShaped
import Derived.Shelf.Unicode.Decode
import Derived.Shelf.Strings.RuneCount
import Derived.Shelf.Strings.Explode
import Derived.Shelf.Unicode.DecodeSlow
import Derived.Shelf.Unicode.DecodeAny
import Derived.Ground.Names2Prog
import Derived.Shelf.Slices.SearchI
import Derived.Ground.SlsfProg
import Derived.Shelf.SlSortCmp.Insertion
import Derived.Shelf.SlSortCmp.SiftDown1
import Derived.Shelf.SlSortCmp.HeapSort1
import Derived.Shelf.SlSortCmp.Insertion1
import Derived.Shelf.SlSortCmp.Median1
import Derived.Shelf.SlSortCmp.Pivot1
import Derived.Shelf.SlSortCmp.ReverseRange1
import Derived.Shelf.SlSortCmp.PartialInsertion1
import Derived.Shelf.SlSortCmp.PartitionEqual1
import Derived.Shelf.SlSortCmp.Partition1
import Derived.Shelf.SlSortCmp.Pdq1
import Derived.Shelf.SlSortCmp.Whole1
import Derived.Shelf.SlSortCmp.NoneTotal
import Derived.Lib.AppendZeros
import Derived.Lib.SliceRun
import Derived.Test.YtlfldfkfojehiaaGreatDoorEvM2
import Derived.OwnWalk
namespace Go.Proofs.YtlfldfkfojehiaaGreatDoor
open Go Go.Ev Go.RowKit Go.Sort Go.Proofs
set_option linter.unusedSimpArgs false
set_option linter.unusedVariables false
set_option maxRecDepth 100000
theorem nan_walk (x : ByteArray) (w : World) : Calls Tryz.prog 228 #[.string x] w fun e w' => e = .returned (.bool false) ∧ w' = w := by
  go_enter Tryz.func228, Tryz.ntmps228
  go_wp2
  all_goals go_ret
  all_goals exact ⟨by simp, rfl⟩
theorem cb_cases : ∀ x y : List UInt8, (Lib.compareBytes x y = -1 ∧ x ≠ y) ∨ (Lib.compareBytes x y = 0 ∧ x = y) ∨ (Lib.compareBytes x y = 1 ∧ x ≠ y)
  | [], [] => by simp [Lib.compareBytes]
  | [], b :: y => by simp [Lib.compareBytes]
  | a :: x, [] => by simp [Lib.compareBytes]
  | a :: x, b :: y => by
    unfold Lib.compareBytes
    by_cases h1 : a < b
    · have : a ≠ b := by rintro rfl; exact absurd h1 (UInt8.lt_irrefl a)
      simp [h1, this]
    · by_cases h2 : b < a
      · have : a ≠ b := by rintro rfl; exact h1 h2
        simp [h1, h2, this]
      · have : a = b := UInt8.le_antisymm (UInt8.not_lt.1 h2) (UInt8.not_lt.1 h1)
        subst this
        simpa [h1] using cb_cases x y
theorem cmp_walk (x y : ByteArray) (w : World) : Calls Tryz.prog 178 #[.string x, .string y] w fun e w' => e = .returned (.int .i64 (Lib.compareBytes x.data.toList y.data.toList)) ∧ w' = w := by
  have hb : ∀ a b : ByteArray, Op.bytesLess a.toList b.toList = decide (Lib.compareBytes a.data.toList b.data.toList < 0) := fun a b => by
    rw [ByteArray.toList_eq, ByteArray.toList_eq, bytesLess_lt, Bool.eq_iff_iff]; simp [Go.Con.cmp_lt]
  go_enter Tryz.func178, Tryz.ntmps178
  go_wp2_with (go_at_call 228; refine (nan_walk _ _).mono ?_; rintro e w' ⟨rfl, hw⟩; rw [hw])
  all_goals go_ret
  all_goals refine ⟨?_, rfl⟩
  all_goals rcases cb_cases x.data.toList y.data.toList with ⟨h, e⟩ | ⟨h, e⟩ | ⟨h, e⟩
  all_goals simp_all [ByteArray.toList_eq]
theorem clos_walk (x y : ByteArray) (w : World) : Calls Tryz.prog 177 #[.string x, .string y] w fun e w' => e = .returned (.int .i64 (Lib.compareBytes x.data.toList y.data.toList)) ∧ w' = w := by
  have hcon := cmp_walk x y w
  generalize Lib.compareBytes x.data.toList y.data.toList = r at hcon ⊢
  go_enter Tryz.func177, Tryz.ntmps177
  go_wp2_with (go_at_call 178; refine hcon.mono ?_; rintro e w' ⟨rfl, rfl⟩)
  go_ret
  exact ⟨rfl, rfl⟩
section
variable {P : Program} (w : World) {ops : Array Oper} {rest : List Oper} {o : Oper} {a : Act} {Q : Exit → Act → World → Prop}
theorem wl_range (hg : o.guard = none) (m : Operand) (t k e : TypeId) (hop : o.op = Op.range t m) (ht : P.underlying t = some (.map k e)) (b : Nat) (es : Array MapEntry) (ck : Nat) (hm : a.eval m = .map (some b)) (hb : w.heap[b]? = some (.map es ck))
    (hK : wpList P ops Q rest (a.put o.dst (.pointer (some ⟨w.heap.size, 0, none⟩))) (w.alloc (.mapIter (some b) ck #[] ck))) : wpList P ops Q (o :: rest) a w := by
  refine wpList_plain hg fun K' hK' => ?_
  unfold Oper.wp
  simp [execOp, hop, hm, run_range_map w t k e b es ck ht hb, Result.andThen]
  exact hK' _ _ hK
def Drawn (w w1 : World) : Prop := w1 = w ∨ w1 = w.drew
theorem wl_next (hg : o.guard = none) (it : Operand) (hop : o.op = Op.next it false) (r b since c0 : Nat) (seen : Array Nat) (es : Array MapEntry) (ck : Nat) (hit : a.eval it = .pointer (some ⟨r, 0, none⟩))
    (hr : w.heap[r]? = some (.mapIter (some b) since seen c0)) (hb : w.heap[b]? = some (.map es ck)) (hold : ∀ x ∈ es.toList, x.born < since) (hsc : since ≤ c0)
    (hDone : (leftOf es seen).size = 0 → wpList P ops Q rest (a.put o.dst (.tuple #[.bool false])) w)
    (hMore : ∀ e ∈ (leftOf es seen).toList, ∀ w1 : World, Drawn w w1 → wpList P ops Q rest (a.put o.dst (.tuple #[.bool true, e.key, e.val])) (Go.ChangeMaps.setBlock w1 r (.mapIter (some b) since (seen.push e.born) ck))) :
    wpList P ops Q (o :: rest) a w := by
  refine wpList_plain hg fun K' hK' => ?_
  unfold Oper.wp
  rcases run_next_at (P := P) w o.type r b since c0 seen es ck hr hb hold hsc with ⟨h0, hrun⟩ | ⟨e, he, w1, h1, hrun⟩
  · simp [execOp, hop, hit, hrun, Result.andThen]
    exact hK' _ _ (hDone h0)
  · simp [execOp, hop, hit, hrun, Result.andThen]
    exact hK' _ _ (hMore e he w1 h1)
end
def nameOf (d : Int) (e : MapEntry) : Option (List UInt8) := match keyName d e.key with
  | some (some s) => some s
  | _ => none
theorem namesE_spec {d : Int} : ∀ {es : List MapEntry} {ns : List (List UInt8)}, namesE d es = some ns → ns = es.filterMap (nameOf d) ∧ ∀ e ∈ es, ∃ x s, e.key = .agg #[.int .i64 x, .string s]
  | [], ns, h => by cases h; exact ⟨rfl, by simp⟩
  | e :: es, ns, h => by
    unfold namesE at h
    have hk : ∀ o, keyName d e.key = some o → ∃ x s, e.key = .agg #[.int .i64 x, .string s] := fun o ho => by
      unfold keyName at ho
      split at ho
      · rename_i cs hcs
        split at ho
        · rename_i x s hl
          refine ⟨x, s, ?_⟩
          rw [hcs]
          congr 1
          cases cs; simp at hl; rw [hl]
        · cases ho
      · cases ho
    cases hn : keyName d e.key with
    | none => rw [hn] at h; cases h
    | some o =>
      rw [hn] at h
      cases o with
      | none =>
        obtain ⟨h1, h2⟩ := namesE_spec h
        refine ⟨by rw [List.filterMap_cons, nameOf, hn]; exact h1, fun x hx => ?_⟩
        rcases List.mem_cons.1 hx with rfl | hx
        · exact hk _ hn
        · exact h2 x hx
      | some s =>
        obtain ⟨l, hl, rfl⟩ := Option.map_eq_some_iff.1 h
        obtain ⟨h1, h2⟩ := namesE_spec hl
        refine ⟨by rw [List.filterMap_cons, nameOf, hn]; simp only; rw [h1], fun x hx => ?_⟩
        rcases List.mem_cons.1 hx with rfl | hx
        · exact hk _ hn
        · exact h2 x hx
theorem nameOf_key {d : Int} {e : MapEntry} {x : Int} {s : ByteArray} (h : e.key = .agg #[.int .i64 x, .string s]) : nameOf d e = if x = d then some s.data.toList else none := by
  unfold nameOf keyName
  rw [h]
  by_cases hx : x = d <;> simp [hx]
theorem left_none {es : Array MapEntry} {seen : Array Nat} (h : (leftOf es seen).size = 0) : ∀ e ∈ es.toList, e.born ∈ seen.toList := fun e he => by
  refine Decidable.byContradiction fun hn => ?_
  have hm : e ∈ (leftOf es seen).toList := by
    unfold leftOf
    simp only [Array.toList_filter, List.mem_filter]
    exact ⟨he, by simpa using hn⟩
  have : (leftOf es seen).toList.length = 0 := by rw [Array.length_toList]; exact h
  rw [List.length_eq_zero_iff.1 this] at hm
  cases hm
theorem left_mem {es : Array MapEntry} {seen : Array Nat} {e : MapEntry} (h : e ∈ (leftOf es seen).toList) : e ∈ es.toList ∧ e.born ∉ seen.toList := by
  unfold leftOf at h
  simp only [Array.toList_filter, List.mem_filter] at h
  exact ⟨h.1, by simpa using h.2⟩
theorem left_less {es : Array MapEntry} {seen : Array Nat} {e : MapEntry} (h : e ∈ (leftOf es seen).toList) : (leftOf es (seen.push e.born)).size < (leftOf es seen).size := by
  rw [← Array.length_toList, ← Array.length_toList]
  obtain ⟨h1, h2⟩ := left_mem h
  unfold leftOf at h ⊢
  rw [Array.toList_filter, Array.toList_filter] at *
  have e1 : (es.toList.filter fun x => !(seen.push e.born).contains x.born) = (es.toList.filter fun x => !seen.contains x.born).filter fun x => !(x.born == e.born) := by
    rw [List.filter_filter]
    apply List.filter_congr
    intro x _
    rw [Bool.eq_iff_iff]
    simp [Array.mem_push, and_comm]
  rw [e1]
  exact List.length_filter_lt_length_iff_exists.2 ⟨e, h, by simp⟩
def leftW (es : Array MapEntry) (r : Nat) (w : World) : Nat := match w.heap[r]? with
  | some (.mapIter _ _ seen _) => (leftOf es seen).size
  | _ => 0
theorem collected_perm {es : List MapEntry} {el : List MapEntry} (hes : (es.map (·.born)).Nodup) (hel : (el.map (·.born)).Nodup) (hsub : ∀ e ∈ el, e ∈ es) (hall : ∀ e ∈ es, e.born ∈ el.map (·.born)) : el.Perm es := by
  have n1 : el.Nodup := by
    refine List.Pairwise.imp ?_ (List.pairwise_map.1 hel)
    intro a b h e
    exact h (by rw [e])
  have n2 : es.Nodup := by
    refine List.Pairwise.imp ?_ (List.pairwise_map.1 hes)
    intro a b h e
    exact h (by rw [e])
  refine (List.perm_ext_iff_of_nodup n1 n2).2 fun a => ⟨hsub a, fun ha => ?_⟩
  obtain ⟨b, hb, hab⟩ := List.mem_map.1 (hall a ha)
  have := Go.Con.Hi.nodup_inj hes (hsub b hb) ha hab
  rw [← this]; exact hb
def SortedW (w : World) (blk : Nat) (ts : List (List UInt8)) (w' : World) : Prop := ∃ n os, w' = grow (putRow encStr (Sort.ahead w n) blk 0 ts.toArray) os
def SortOK : Prop := ∀ (blk cap : Nat) (ss : List (List UInt8)) (w : World) (cur : Array Value), w.heap[blk]? = some (.cells cur 9 (0, 0)) → cur.toList.take ss.length = ss.map encStr → ss.length ≤ cap → ss.length < 4611686018427387904 →
  Calls Tryz.prog 176 #[.slice (some ⟨blk, 0, none⟩) ss.length cap, .func (.func 177) #[] #[]] w fun e w' => e = .returned (.tuple #[]) ∧ SortedW w blk (sortB ss) w'
def SortNil : Prop := ∀ (w : World), Calls Tryz.prog 176 #[.slice none 0 0, .func (.func 177) #[] #[]] w fun e w' => e = .returned (.tuple #[]) ∧ Below w.heap.size w w'
set_option maxHeartbeats 400000 in
theorem names_walk (HS : SortOK) (HN : SortNil) : NamesOK Tryz.prog 103 9 := by
  intro tb bm es ck d ns w hcell hb hnd hborn hsz hns
  obtain ⟨hns, hkey⟩ := namesE_spec hns
  obtain ⟨i0, hi, hz0, hz1, hz2⟩ := info_parts (P := Tryz.prog) (e := 9) (z := .string ⟨#[]⟩) (size := 1) (bytes := 16) (by kernel_rfl)
  have hbl : bm < w.heap.size := (Array.getElem?_eq_some_iff.1 hb).1
  go_enter Tryz.func103, Tryz.ntmps103
  go_wp2_with (first
    | (at_range; refine wl_range _ rfl _ _ _ _ rfl Tryz.underlying210 bm es ck rfl hb ?_)
    | go_in)
  go_frame
  go_loopw [5] (fun v wr => ∃ (el : List MapEntry) (seen : Array Nat) (c0 : Nat), wr.heap[w.heap.size]? = some (.mapIter (some bm) ck seen c0) ∧ ck ≤ c0 ∧ seen.toList = el.map (·.born) ∧ (el.map (·.born)).Nodup ∧ (∀ e ∈ el, e ∈ es.toList) ∧
      wr.heap[bm]? = some (.map es ck) ∧ el.length + (leftOf es seen).size ≤ es.size ∧ wr.ownsRow (w.heap.size + 1) 9 1 v (el.filterMap (nameOf d)).length ((el.filterMap (nameOf d)).map encStr) ∧ ((el.filterMap (nameOf d)).length = 0 → v = .slice none 0 0) ∧ Below w.heap.size w wr)
    (fun _ wr => leftW es w.heap.size wr)
  case atStart =>
    refine ⟨[], #[], ck, by show (w.heap.push _)[w.heap.size]? = _; simp, Nat.le_refl _, rfl, by simp, by simp, ?_, ?_, ⟨rfl, .inl ⟨rfl, rfl⟩⟩, fun _ => rfl, (Below.refl _ _).alloc (Nat.le_refl _) _⟩
    · rw [Below.heap_alloc _ _ _ hbl]; exact hb
    · unfold leftOf; simp; exact Array.size_filter_le
  case round =>
    obtain ⟨el, seen, c0, hr, hc0, hseen, hel, hsub, hb1, hlen, hrow, hvn, hbel⟩ := hrel
    go_wp2_with (first
      | (at_next; refine wl_next _ rfl _ rfl w.heap.size bm ck c0 seen es ck rfl hr hb1 hborn hc0 ?_ ?_)
      | go_in)
    · intro h0
      have h1 := left_none (es := es) (seen := seen) (by rw [h0]; rfl)
      rw [hseen] at h1
      have hperm := (collected_perm hnd hel hsub h1).filterMap (nameOf d)
      rw [← hns] at hperm
      have hnl : (el.filterMap (nameOf d)).length = ns.length := hperm.length_eq
      have hsort : sortB (el.filterMap (nameOf d)) = sortB ns := sortB_uniq ((sortB_perm _).trans hperm) (sortB_sorted _)
      have hsl : (sortB ns).length = ns.length := (sortB_perm ns).length_eq
      have hell : (el.filterMap (nameOf d)).length ≤ el.length := List.length_filterMap_le _ _
      generalize el.filterMap (nameOf d) = ss at hrow hperm hnl hsort hell hvn
      rcases hrow.2 with ⟨rfl, hn0⟩ | ⟨g, cap, cur, rfl, hbase, hb, k1, k2, k3, k4⟩
      · have hnil : ns = [] := List.length_eq_zero_iff.1 (by omega)
        have hc := HN wr
        go_wp2_with (go_at_call 176; refine hc.mono ?_; rintro e w' ⟨rfl, hbw⟩)
        go_ret
        exact ⟨hbel.trans (hbw.mono hbel.size), .inl ⟨hnil, rfl⟩⟩
      · have hc := HS g cap ss wr cur hb (by simpa using k4) k1 (by omega)
        rw [hsort] at hc
        have pk : Nonempty (PLift (ss.length = ns.length ∧ (sortB ns).length = ns.length ∧ cur.size = cap * 1 ∧ cur.toList.take (ss.length * 1) = ss.map encStr ∧ wr.heap[g]? = some (.cells cur 9 (0, 0)))) := ⟨⟨hnl, hsl, k3, k4, hb⟩⟩
        clear hns hnl hsl k3 k4 hsort hseen hb h0
        go_wp2_with (go_at_call 176; refine hc.mono ?_; rintro e w' ⟨rfl, hw'⟩)
        go_ret
        obtain ⟨nn, os, rfl⟩ := hw'
        obtain ⟨⟨hnl, hsl, k3, k4, hb⟩⟩ := pk
        have hfin := hbel.grown (grownBy_sorted (w := wr) (g := g) (n := nn) (os := os) (sortB ns).toArray) hbel.size (fun j hj => by cases hj; omega)
        refine ⟨hfin, ?_⟩
        have hheap := heap_sorted (n := nn) (os := os) (sortB ns).toArray hb
        by_cases hnz : ns = []
        · have := hvn (by rw [hnl, hnz]; rfl)
          cases this
        · refine .inr ⟨g, cap, _, by rw [← hnl]; rfl, hnz, by omega, by omega, hheap, by simp [putCells]; omega, ?_⟩
          have := take_putCells cur (sortB ns) (by omega)
          rw [hsl] at this
          exact this
    · intro e he w1 hw1
      have he := Array.mem_toList_iff.2 he
      obtain ⟨he1, he2⟩ := left_mem he
      obtain ⟨x, nm, hk⟩ := hkey e he1
      have hnm := nameOf_key (d := d) hk
      have hless := left_less he
      rw [hk]
      have hh : w1.heap = wr.heap := by rcases hw1 with rfl | rfl <;> rfl
      have hrl : w.heap.size < wr.heap.size := (Array.getElem?_eq_some_iff.1 hr).1
      have hr2 : (Go.ChangeMaps.setBlock w1 w.heap.size (.mapIter (some bm) ck (seen.push e.born) ck)).heap[w.heap.size]? = some (.mapIter (some bm) ck (seen.push e.born) ck) := by
        simp [Go.ChangeMaps.setBlock, hh, hrl]
      have hg12 : wr.grownBy (Go.ChangeMaps.setBlock w1 w.heap.size (.mapIter (some bm) ck (seen.push e.born) ck)) (some w.heap.size) := by
        refine ⟨by rcases hw1 with rfl | rfl <;> rfl, by rcases hw1 with rfl | rfl <;> rfl, by rcases hw1 with rfl | rfl <;> rfl, by simp [Go.ChangeMaps.setBlock, hh], fun k hk hne => ?_⟩
        have : w.heap.size ≠ k := fun e => hne (by rw [e])
        simp [Go.ChangeMaps.setBlock, hh, this]
      have hb2 := (hg12.block bm (by have := (Array.getElem?_eq_some_iff.1 hb1).1; exact this) (by simp; omega)).trans hb1
      have hen := run_entry_at (P := Tryz.prog) _ w.heap.size bm ck seen es ck e hr2 hb2 he1 hnd
      rw [hk] at hen
      have hbel2 := hbel.grown hg12 hbel.size (fun k e => by cases e; exact Nat.le_refl _)
      have hrow2 := hrow.kept hg12 (by
        rcases hrow.2 with ⟨rfl, _⟩ | ⟨g, cap, cur, rfl, hbase, _⟩
        · exact .inl rfl
        · right; simp [Value.ownBlock]; omega)
      have hlw : ∀ w' : World, w'.heap[w.heap.size]? = some (.mapIter (some bm) ck (seen.push e.born) ck) → leftW es w.heap.size w' < leftW es w.heap.size wr := fun w' h' => by
        unfold leftW; rw [h', hr]; exact hless
      have hcol : (seen.push e.born).toList = (el ++ [e]).map (·.born) := by simp [hseen]
      have hel2 : ((el ++ [e]).map (·.born)).Nodup := by
        rw [List.map_append, List.nodup_append]
        refine ⟨hel, by simp, fun a ha b hb => ?_⟩
        simp at hb
        subst hb
        rintro rfl
        rw [hseen] at he2
        exact he2 ha
      have hsub2 : ∀ y ∈ el ++ [e], y ∈ es.toList := fun y hy => by
        rcases List.mem_append.1 hy with hy | hy
        · exact hsub y hy
        · simp at hy; subst hy; exact he1
      have hlen2 : (el ++ [e]).length + (leftOf es (seen.push e.born)).size ≤ es.size := by rw [List.length_append, List.length_singleton]; omega
      have hell : (el.filterMap (nameOf d)).length ≤ el.length := List.length_filterMap_le _ _
      generalize Go.ChangeMaps.setBlock w1 w.heap.size (.mapIter (some bm) ck (seen.push e.born) ck) = w2 at hr2 hb2 hen hbel2 hrow2 ⊢
      have hrow3 := (hrow2.alloc (.cells #[.int .i64 x, .string nm] 333)).alloc (.cells #[.string nm] 9)
      have hsz2 := hbel2.size
      have hrl2 : w.heap.size < w2.heap.size := (Array.getElem?_eq_some_iff.1 hr2).1
      have hbl2 : bm < w2.heap.size := (Array.getElem?_eq_some_iff.1 hb2).1
      have hnew : ∀ (j : Nat) u, [Value.string nm][j]? = some u → ((w2.alloc (.cells #[.int .i64 x, .string nm] 333)).alloc (.cells #[.string nm] 9)).cell? ((⟨w2.heap.size + 1, 0, none⟩ : Addr).add j) = some u := by
        have h0 := cell_one_new (w2.alloc (.cells #[.int .i64 x, .string nm] 333)) (.string nm) 9
        have e1 : (w2.alloc (.cells #[.int .i64 x, .string nm] 333)).heap.size = w2.heap.size + 1 := by simp
        rw [e1] at h0
        exact h0
      clear hg12 hh hw1
      go_wp2_with (first
        | (at_builtin; refine wpList_append_own _ rfl _ _ 227 rfl (w.heap.size + 1) 9 i0 (.string ⟨#[]⟩) 1 16 Tryz.underlying227 hi hz0 hz1 hz2 rfl (by decide) _ _ _ rfl hrow3 ⟨w2.heap.size + 1, 0, none⟩ 1 1 [.string nm] rfl rfl hnew (fun x hx => by simp at hx; subst hx; rfl) (by unfold maxLen; omega) (by omega) (by simp; omega) ?_; intro v' w3 hown' hgrow3 hnil3)
        | go_in)
      · rename_i hxd
        have hgrow4 : ((w2.alloc (.cells #[.int .i64 x, .string nm] 333)).alloc (.cells #[.string nm] 9)).grownBy w3 (Value.ownBlock u5) := hgrow3
        have hown2 : Value.ownBlock u5 = none ∨ ∃ g, Value.ownBlock u5 = some g ∧ w.heap.size + 1 ≤ g := by
          rcases hrow.2 with ⟨rfl, _⟩ | ⟨g, cap, cur, rfl, hbase, _⟩
          · exact .inl rfl
          · exact .inr ⟨g, rfl, hbase⟩
        have hne : ∀ k, k ≤ w.heap.size → some k ≠ Value.ownBlock u5 := fun k hk e => by
          rcases hown2 with h | ⟨g, h, hg⟩
          · rw [h] at e; cases e
          · rw [h] at e; cases e; omega
        have hold : ∀ k, k ≤ w.heap.size → k < w2.heap.size → w3.heap[k]? = w2.heap[k]? := fun k hk hk2 => by
          rw [hgrow4.block k (by simp; omega) (hne k hk), Below.heap_alloc _ _ _ (by simp; omega), Below.heap_alloc _ _ _ hk2]
        have hr3 := (hold _ (Nat.le_refl _) hrl2).trans hr2
        have hb3 := (hold bm (by omega) hbl2).trans hb2
        have hfm : (el ++ [e]).filterMap (nameOf d) = el.filterMap (nameOf d) ++ [nm.data.toList] := by
          rw [List.filterMap_append]
          congr 1
          rw [List.filterMap_cons, hnm, if_pos (by simpa using hxd)]; rfl
        refine ⟨⟨el ++ [e], _, ck, hr3, Nat.le_refl _, hcol, hel2, hsub2, hb3, hlen2, ?_, ?_, ?_⟩, hlw _ hr3⟩
        · rw [hfm, List.length_append, List.map_append]
          simpa [encStr] using hown'
        · rw [hfm]; simp
        · exact ((hbel2.alloc (by omega) _).alloc (by simp; omega) _).grown hgrow4 (by simp; omega) (fun k hk => by
            rcases hown2 with h | ⟨g, h, hg⟩
            · rw [h] at hk; cases hk
            · rw [h] at hk; cases hk; omega)
      · rename_i hxd
        have hr3 := (Below.heap_alloc w2 (.cells #[.int .i64 x, .string nm] 333) _ hrl2).trans hr2
        have hb3 := (Below.heap_alloc w2 (.cells #[.int .i64 x, .string nm] 333) _ hbl2).trans hb2
        have hfm : (el ++ [e]).filterMap (nameOf d) = el.filterMap (nameOf d) := by
          rw [List.filterMap_append, List.filterMap_cons, hnm, if_neg (by simpa using hxd)]; simp
        refine ⟨⟨el ++ [e], _, ck, hr3, Nat.le_refl _, hcol, hel2, hsub2, hb3, hlen2, ?_, ?_, hbel2.alloc (by omega) _⟩, hlw _ hr3⟩
        · rw [hfm]; exact hrow2.alloc _
        · rw [hfm]; exact hvn
end Go.Proofs.YtlfldfkfojehiaaGreatDoor
namespace Go.Proofs
open Go.Shelf
def Tryz.lays213_ren : Go.Shelf.Ren := ⟨fun | 213 => 229 | 265 => 271 | n => n, fun | 9 => 9 | 3 => 3 | n => n, fun | n => n⟩
def Tryz.lays106_ren : Go.Shelf.Ren := ⟨fun | 106 => 179 | 213 => 229 | 265 => 271 | n => n, fun | 9 => 9 | 3 => 3 | n => n, fun | n => n⟩
theorem Tryz.lays106 : Go.Proofs.Lays.n106 Tryz.prog Tryz.lays106_ren := {
  mixed := by kernel_rfl
  f106 := Tryz.func179.trans (congrArg some (by kernel_rfl))
  f213 := Tryz.func229.trans (congrArg some (by kernel_rfl))
  f265 := Tryz.func271.trans (congrArg some (by kernel_rfl))
  t3 := Tryz.underlying3
  a3 := Tryz.isAgg3
  z3 := Tryz.sizeOf3
  v3 := Tryz.zeroValue3
  t9 := Tryz.underlying9
  a9 := Tryz.isAgg9
  z9 := Tryz.sizeOf9
  v9 := Tryz.zeroValue9 }
open Go.RowKit in
theorem Tryz.strings_Compare (a b : ByteArray) (w : World) :
    Calls Tryz.prog 179 #[.string a, .string b] w fun e w' => e = .returned (.int .i64 (Lib.compareBytes a.data.toList b.data.toList)) ∧ w' = w := Any.strings_Compare Tryz.lays106 a b w
def Tryz.lays221_ren : Go.Shelf.Ren := ⟨fun | 221 => 257 | 268 => 286 | 138 => 287 | 143 => 288 | 195 => 302 | 197 => 303 | 218 => 304 | 219 => 305 | 260 => 309 | 217 => 310 | 225 => 311 | 224 => 312 | 267 => 313 | 266 => 315 | 314 => 316 | n => n, fun | 9 => 9 | 3 => 3 | 31 => 227 | 4 => 4 | 0 => 0 | 105 => 455 | 21 => 21 | 5 => 5 | 46 => 339 | 119 => 462 | 139 => 465 | 138 => 464 | 146 => 466 | 51 => 422 | n => n, fun | 1 => 0 | 3 => 1 | 4 => 2 | n => n⟩
def Tryz.lays146_ren : Go.Shelf.Ren := ⟨fun | 146 => 220 | 221 => 257 | 268 => 286 | 138 => 287 | 143 => 288 | 195 => 302 | 197 => 303 | 218 => 304 | 219 => 305 | 260 => 309 | 217 => 310 | 225 => 311 | 224 => 312 | 267 => 313 | 266 => 315 | 314 => 316 | n => n, fun | 9 => 9 | 31 => 227 | 3 => 3 | 4 => 4 | 0 => 0 | 105 => 455 | 21 => 21 | 5 => 5 | 46 => 339 | 119 => 462 | 139 => 465 | 138 => 464 | 146 => 466 | 51 => 422 | n => n, fun | 1 => 0 | 3 => 1 | 4 => 2 | n => n⟩
theorem Tryz.lays146 : Go.Proofs.Lays.n146 Tryz.prog Tryz.lays146_ren := {
  mixed := by kernel_rfl
  f138 := Tryz.func287.trans (congrArg some (by kernel_rfl))
  f143 := Tryz.func288.trans (congrArg some (by kernel_rfl))
  f146 := Tryz.func220.trans (congrArg some (by kernel_rfl))
  f195 := Tryz.func302.trans (congrArg some (by kernel_rfl))
  f197 := Tryz.func303.trans (congrArg some (by kernel_rfl))
  f217 := Tryz.func310.trans (congrArg some (by kernel_rfl))
  f218 := Tryz.func304.trans (congrArg some (by kernel_rfl))
  f219 := Tryz.func305.trans (congrArg some (by kernel_rfl))
  f221 := Tryz.func257.trans (congrArg some (by kernel_rfl))
  f224 := Tryz.func312.trans (congrArg some (by kernel_rfl))
  f225 := Tryz.func311.trans (congrArg some (by kernel_rfl))
  f260 := Tryz.func309.trans (congrArg some (by kernel_rfl))
  f266 := Tryz.func315.trans (congrArg some (by kernel_rfl))
  f267 := Tryz.func313.trans (congrArg some (by kernel_rfl))
  f268 := Tryz.func286.trans (congrArg some (by kernel_rfl))
  f314 := Tryz.func316.trans (congrArg some (by kernel_rfl))
  t0 := Tryz.underlying0
  a0 := Tryz.isAgg0
  z0 := Tryz.sizeOf0
  v0 := Tryz.zeroValue0
  t3 := Tryz.underlying3
  a3 := Tryz.isAgg3
  z3 := Tryz.sizeOf3
  v3 := Tryz.zeroValue3
  t4 := Tryz.underlying4
  a4 := Tryz.isAgg4
  z4 := Tryz.sizeOf4
  v4 := Tryz.zeroValue4
  t5 := Tryz.underlying5
  a5 := Tryz.isAgg5
  z5 := Tryz.sizeOf5
  v5 := Tryz.zeroValue5
  t9 := Tryz.underlying9
  a9 := Tryz.isAgg9
  z9 := Tryz.sizeOf9
  v9 := Tryz.zeroValue9
  t21 := Tryz.underlying21
  a21 := Tryz.isAgg21
  z21 := Tryz.sizeOf21
  v21 := Tryz.zeroValue21
  t31 := Tryz.underlying227
  a31 := Tryz.isAgg227
  z31 := Tryz.sizeOf227
  v31 := Tryz.zeroValue227
  t46 := Tryz.underlying339
  a46 := Tryz.isAgg339
  z46 := Tryz.sizeOf339
  v46 := Tryz.zeroValue339
  t51 := Tryz.underlying422
  a51 := Tryz.isAgg422
  z51 := Tryz.sizeOf422
  v51 := Tryz.zeroValue422
  t105 := Tryz.underlying455
  a105 := Tryz.isAgg455
  z105 := Tryz.sizeOf455
  v105 := Tryz.zeroValue455
  t119 := Tryz.underlying462
  a119 := Tryz.isAgg462
  z119 := Tryz.sizeOf462
  t138 := Tryz.underlying464
  a138 := Tryz.isAgg464
  z138 := Tryz.sizeOf464
  v138 := Tryz.zeroValue464
  t139 := Tryz.underlying465
  a139 := Tryz.isAgg465
  z139 := Tryz.sizeOf465
  v139 := Tryz.zeroValue465
  t146 := Tryz.underlying466
  a146 := Tryz.isAgg466
  z146 := Tryz.sizeOf466
  v146 := Tryz.zeroValue466
  g1 := by kernel_rfl
  g3 := by kernel_rfl
  g4 := by kernel_rfl }
open Go.RowKit Go.Lib in
theorem Tryz.strings_Split (s sep : ByteArray) (m : Int) (w : World) (hs : s.size < 4294967281) (hm : w.cell? ⟨0, 0, none⟩ = some (.int .i64 m)) (h1 : 1 ≤ sep.size) :
    Calls Tryz.prog 220 #[.string s, .string sep] w fun e w' =>
      e = .returned (.slice (some ⟨w.heap.size, 0, none⟩) (Lib.countB s sep + 1) (Lib.countB s sep + 1)) ∧ w' = w.alloc (.cells ((Lib.splitB sep 0 (Lib.countB s sep) s).map Value.string).toArray 9) := Any.strings_Split Tryz.lays146 (by kernel_rfl) s sep m w hs hm h1
def Tryz.laysSlF6_f176_ren : Go.Shelf.Ren := ⟨fun | 6 => 176 | 15 => 227 | 14 => 226 | 28 => 269 | 29 => 270 | 20 => 261 | 21 => 262 | 22 => 263 | 23 => 264 | 24 => 265 | 25 => 266 | 26 => 267 | 27 => 268 | 46 => 290 | 47 => 291 | 48 => 292 | 49 => 293 | 50 => 294 | 57 => 306 | n => n, fun | 22 => 227 | 24 => 9 | 25 => 338 | 3 => 3 | 39 => 339 | 0 => 0 | 53 => 422 | 55 => 27 | 4 => 4 | 46 => 416 | 45 => 415 | 50 => 246 | 5 => 5 | 9 => 9 | 66 => 438 | 70 => 442 | 76 => 458 | 77 => 83 | n => n, fun | n => n⟩
theorem Tryz.laysSlF6_f176 : Go.Proofs.SlLaysF.n6 Tryz.prog Tryz.laysSlF6_f176_ren := {
  mixed := by kernel_rfl
  f6 := ⟨Tryz.f176.name, by decide, Tryz.func176.trans (congrArg some (by kernel_rfl))⟩
  f14 := ⟨Tryz.f226.name, by decide, Tryz.func226.trans (congrArg some (by kernel_rfl))⟩
  f15 := Tryz.func227.trans (congrArg some (by kernel_rfl))
  f20 := ⟨Tryz.f261.name, by decide, Tryz.func261.trans (congrArg some (by kernel_rfl))⟩
  f21 := ⟨Tryz.f262.name, by decide, Tryz.func262.trans (congrArg some (by kernel_rfl))⟩
  f22 := ⟨Tryz.f263.name, by decide, Tryz.func263.trans (congrArg some (by kernel_rfl))⟩
  f23 := ⟨Tryz.f264.name, by decide, Tryz.func264.trans (congrArg some (by kernel_rfl))⟩
  f24 := ⟨Tryz.f265.name, by decide, Tryz.func265.trans (congrArg some (by kernel_rfl))⟩
  f25 := ⟨Tryz.f266.name, by decide, Tryz.func266.trans (congrArg some (by kernel_rfl))⟩
  f26 := ⟨Tryz.f267.name, by decide, Tryz.func267.trans (congrArg some (by kernel_rfl))⟩
  f27 := ⟨Tryz.f268.name, by decide, Tryz.func268.trans (congrArg some (by kernel_rfl))⟩
  f28 := Tryz.func269.trans (congrArg some (by kernel_rfl))
  f29 := Tryz.func270.trans (congrArg some (by kernel_rfl))
  f46 := ⟨Tryz.f290.name, by decide, Tryz.func290.trans (congrArg some (by kernel_rfl))⟩
  f47 := Tryz.func291.trans (congrArg some (by kernel_rfl))
  f48 := Tryz.func292.trans (congrArg some (by kernel_rfl))
  f49 := ⟨Tryz.f293.name, by decide, Tryz.func293.trans (congrArg some (by kernel_rfl))⟩
  f50 := ⟨Tryz.f294.name, by decide, Tryz.func294.trans (congrArg some (by kernel_rfl))⟩
  f57 := ⟨Tryz.f306.name, by decide, Tryz.func306.trans (congrArg some (by kernel_rfl))⟩
  t0 := Tryz.underlying0
  a0 := Tryz.isAgg0
  z0 := Tryz.sizeOf0
  v0 := Tryz.zeroValue0
  t3 := Tryz.underlying3
  a3 := Tryz.isAgg3
  z3 := Tryz.sizeOf3
  v3 := Tryz.zeroValue3
  t4 := Tryz.underlying4
  a4 := Tryz.isAgg4
  z4 := Tryz.sizeOf4
  v4 := Tryz.zeroValue4
  t5 := Tryz.underlying5
  a5 := Tryz.isAgg5
  z5 := Tryz.sizeOf5
  v5 := Tryz.zeroValue5
  t9 := Tryz.underlying9
  a9 := Tryz.isAgg9
  z9 := Tryz.sizeOf9
  v9 := Tryz.zeroValue9
  t22 := Tryz.underlying227
  a22 := Tryz.isAgg227
  z22 := Tryz.sizeOf227
  v22 := Tryz.zeroValue227
  a24 := Tryz.isAgg9
  z24 := Tryz.sizeOf9
  t25 := Tryz.underlying338
  a25 := Tryz.isAgg338
  z25 := Tryz.sizeOf338
  v25 := Tryz.zeroValue338
  t39 := Tryz.underlying339
  a39 := Tryz.isAgg339
  z39 := Tryz.sizeOf339
  v39 := Tryz.zeroValue339
  t45 := Tryz.underlying415
  a45 := Tryz.isAgg415
  z45 := Tryz.sizeOf415
  v45 := Tryz.zeroValue415
  t46 := Tryz.underlying416
  a46 := Tryz.isAgg416
  z46 := Tryz.sizeOf416
  v46 := Tryz.zeroValue416
  t50 := Tryz.underlying246
  a50 := Tryz.isAgg246
  z50 := Tryz.sizeOf246
  v50 := Tryz.zeroValue246
  t53 := Tryz.underlying422
  a53 := Tryz.isAgg422
  z53 := Tryz.sizeOf422
  v53 := Tryz.zeroValue422
  t55 := Tryz.underlying27
  a55 := Tryz.isAgg27
  z55 := Tryz.sizeOf27
  v55 := Tryz.zeroValue27
  t66 := Tryz.underlying438
  a66 := Tryz.isAgg438
  z66 := Tryz.sizeOf438
  v66 := Tryz.zeroValue438
  t70 := Tryz.underlying442
  a70 := Tryz.isAgg442
  z70 := Tryz.sizeOf442
  v70 := Tryz.zeroValue442
  t76 := Tryz.underlying458
  a76 := Tryz.isAgg458
  z76 := Tryz.sizeOf458
  v76 := Tryz.zeroValue458
  t77 := Tryz.underlying83
  a77 := Tryz.isAgg83
  z77 := Tryz.sizeOf83
  v77 := Tryz.zeroValue83 }
open Go.RowKit Go.Lib Go.Sort in
theorem Tryz.slices_SortFunc {α : Type} [Inhabited α] (enc : α → Value) (h1 : OneCell enc) (cf : α → α → Int) (hO : SWO (ltOf cf)) (g : Nat) (cb : Array Value) (blk off cap : Nat) (d : Array α) (w : World) (eg : ∀ args w, (callFunc g args).run Tryz.prog w = .ok (.enter g args) w) (hcmp : CmpLays1 Tryz.prog g cb enc cf blk off d.size w) (hH : Holds enc w blk off d) (hblk : blk < w.heap.size) (hsz : d.size < 4611686018427387904) :
    Calls Tryz.prog 176 #[.slice (some ⟨blk, off, none⟩) d.size cap, .func (.func g) #[] cb] w fun e w' =>
      e = .returned (.tuple #[]) ∧ ∃ d' n os, PermIn 0 d.size d d' ∧ SortedIn (ltOf cf) 0 d.size d' ∧ w' = sortWorld enc w blk off n d' os := Any.slices_SortFunc Tryz.laysSlF6_f176 enc h1 cf hO g cb blk off cap d w eg hcmp hH hblk hsz
def Tryz.laysSlF06_f176_ren : Go.Shelf.Ren := ⟨fun | 6 => 176 | 15 => 227 | 14 => 226 | 28 => 269 | 29 => 270 | 20 => 261 | 21 => 262 | 22 => 263 | 23 => 264 | 24 => 265 | 25 => 266 | 26 => 267 | 27 => 268 | 46 => 290 | 47 => 291 | 48 => 292 | 49 => 293 | 50 => 294 | 57 => 306 | n => n, fun | 22 => 227 | 24 => 9 | 25 => 338 | 3 => 3 | 39 => 339 | 0 => 0 | 53 => 422 | 55 => 27 | 4 => 4 | 46 => 416 | 45 => 415 | 50 => 246 | 5 => 5 | 9 => 9 | 66 => 438 | 70 => 442 | 76 => 458 | 77 => 83 | n => n, fun | n => n⟩
theorem Tryz.laysSlF06_f176 : Go.Proofs.SlLaysF0.n6 Tryz.prog Tryz.laysSlF06_f176_ren := {
  mixed := by kernel_rfl
  f6 := ⟨Tryz.f176.name, by decide, Tryz.func176.trans (congrArg some (by kernel_rfl))⟩
  f14 := ⟨Tryz.f226.name, by decide, Tryz.func226.trans (congrArg some (by kernel_rfl))⟩
  f15 := Tryz.func227.trans (congrArg some (by kernel_rfl))
  f20 := ⟨Tryz.f261.name, by decide, Tryz.func261.trans (congrArg some (by kernel_rfl))⟩
  f21 := ⟨Tryz.f262.name, by decide, Tryz.func262.trans (congrArg some (by kernel_rfl))⟩
  f22 := ⟨Tryz.f263.name, by decide, Tryz.func263.trans (congrArg some (by kernel_rfl))⟩
  f23 := ⟨Tryz.f264.name, by decide, Tryz.func264.trans (congrArg some (by kernel_rfl))⟩
  f24 := ⟨Tryz.f265.name, by decide, Tryz.func265.trans (congrArg some (by kernel_rfl))⟩
  f25 := ⟨Tryz.f266.name, by decide, Tryz.func266.trans (congrArg some (by kernel_rfl))⟩
  f26 := ⟨Tryz.f267.name, by decide, Tryz.func267.trans (congrArg some (by kernel_rfl))⟩
  f27 := ⟨Tryz.f268.name, by decide, Tryz.func268.trans (congrArg some (by kernel_rfl))⟩
  f28 := Tryz.func269.trans (congrArg some (by kernel_rfl))
  f29 := Tryz.func270.trans (congrArg some (by kernel_rfl))
  f46 := ⟨Tryz.f290.name, by decide, Tryz.func290.trans (congrArg some (by kernel_rfl))⟩
  f47 := Tryz.func291.trans (congrArg some (by kernel_rfl))
  f48 := Tryz.func292.trans (congrArg some (by kernel_rfl))
  f49 := ⟨Tryz.f293.name, by decide, Tryz.func293.trans (congrArg some (by kernel_rfl))⟩
  f50 := ⟨Tryz.f294.name, by decide, Tryz.func294.trans (congrArg some (by kernel_rfl))⟩
  f57 := ⟨Tryz.f306.name, by decide, Tryz.func306.trans (congrArg some (by kernel_rfl))⟩
  t0 := Tryz.underlying0
  a0 := Tryz.isAgg0
  z0 := Tryz.sizeOf0
  v0 := Tryz.zeroValue0
  t3 := Tryz.underlying3
  a3 := Tryz.isAgg3
  z3 := Tryz.sizeOf3
  v3 := Tryz.zeroValue3
  t4 := Tryz.underlying4
  a4 := Tryz.isAgg4
  z4 := Tryz.sizeOf4
  v4 := Tryz.zeroValue4
  t5 := Tryz.underlying5
  a5 := Tryz.isAgg5
  z5 := Tryz.sizeOf5
  v5 := Tryz.zeroValue5
  t9 := Tryz.underlying9
  a9 := Tryz.isAgg9
  z9 := Tryz.sizeOf9
  v9 := Tryz.zeroValue9
  t22 := Tryz.underlying227
  a22 := Tryz.isAgg227
  z22 := Tryz.sizeOf227
  v22 := Tryz.zeroValue227
  t25 := Tryz.underlying338
  a25 := Tryz.isAgg338
  z25 := Tryz.sizeOf338
  v25 := Tryz.zeroValue338
  t39 := Tryz.underlying339
  a39 := Tryz.isAgg339
  z39 := Tryz.sizeOf339
  v39 := Tryz.zeroValue339
  t45 := Tryz.underlying415
  a45 := Tryz.isAgg415
  z45 := Tryz.sizeOf415
  v45 := Tryz.zeroValue415
  t46 := Tryz.underlying416
  a46 := Tryz.isAgg416
  z46 := Tryz.sizeOf416
  v46 := Tryz.zeroValue416
  t50 := Tryz.underlying246
  a50 := Tryz.isAgg246
  z50 := Tryz.sizeOf246
  v50 := Tryz.zeroValue246
  t53 := Tryz.underlying422
  a53 := Tryz.isAgg422
  z53 := Tryz.sizeOf422
  v53 := Tryz.zeroValue422
  t55 := Tryz.underlying27
  a55 := Tryz.isAgg27
  z55 := Tryz.sizeOf27
  v55 := Tryz.zeroValue27
  t66 := Tryz.underlying438
  a66 := Tryz.isAgg438
  z66 := Tryz.sizeOf438
  v66 := Tryz.zeroValue438
  t70 := Tryz.underlying442
  a70 := Tryz.isAgg442
  z70 := Tryz.sizeOf442
  v70 := Tryz.zeroValue442
  t76 := Tryz.underlying458
  a76 := Tryz.isAgg458
  z76 := Tryz.sizeOf458
  v76 := Tryz.zeroValue458
  t77 := Tryz.underlying83
  a77 := Tryz.isAgg83
  z77 := Tryz.sizeOf83
  v77 := Tryz.zeroValue83 }
open Go.RowKit Go.Lib Go.Sort in
theorem Tryz.slices_SortFunc_none {α : Type} [Inhabited α] (p : Option Addr) (cap : Nat) (fv : Value) (w : World) :
    Calls Tryz.prog 176 #[.slice p 0 cap, fv] w fun e w' => e = .returned (.tuple #[]) ∧ w' = w := AnyF.slices_SortFunc_none Tryz.laysSlF06_f176 p cap fv w
end Go.Proofs
namespace Go.Proofs.YtlfldfkfojehiaaGreatDoor
open Go Go.Ev Go.RowKit Go.Sort Go.Proofs Go.Shelf Go.Lib
set_option linter.unusedSimpArgs false
set_option linter.unusedVariables false
set_option maxRecDepth 100000
theorem nil_walk (d : Int) (w : World) : Calls Tryz.prog 103 #[.pointer none, .int .i64 d] w fun e w' => e = .returned (.slice none 0 0) ∧ Below w.heap.size w w' := by
  go_enter Tryz.func103, Tryz.ntmps103
  go_wp2
  go_ret
  exact ⟨rfl, Below.refl _ _⟩
theorem swo_bytes : SWO (ltOf Lib.compareBytes) := by
  have h : ∀ x y, ltOf Lib.compareBytes x y = decide (x < y) := fun x y => by
    unfold ltOf
    rw [Bool.eq_iff_iff]
    have := Go.Con.cmp_lt x y
    simp [this]
  refine { irrefl := fun x => ?_, trans := fun x y z h1 h2 => ?_, ntrans := fun x y z h1 h2 => ?_ }
  · rw [h]; simp [List.lt_irrefl]
  · rw [h] at *
    simp only [decide_eq_true_eq] at *
    exact List.lt_trans h1 h2
  · rw [h] at *
    simp only [decide_eq_false_iff_not, List.not_lt] at *
    exact List.le_trans h2 h1
theorem sort_ok : SortOK := by
  intro blk cap ss w cur hb ht hc hl
  have eg : ∀ args w, (callFunc 177 args).run Tryz.prog w = .ok (.enter 177 args) w := enters_of Tryz.func177 (by kernel_rfl) rfl
  have hcmp : CmpReads Tryz.prog 177 #[] encStr Lib.compareBytes blk 0 ss.toArray.size w := fun m os dk _ x y => (clos_walk _ _ _).mono fun e w' he => ⟨he.1, 0, he.2⟩
  have hcon := Tryz.slices_SortFunc encStr (fun _ => rfl) Lib.compareBytes swo_bytes 177 #[] blk 0 cap ss.toArray w eg hcmp.lays (holds_of_block hb ht) (Array.getElem?_eq_some_iff.1 hb).1 (by simpa using hl)
  have e1 : ss.toArray.size = ss.length := by simp
  rw [e1] at hcon
  refine hcon.mono fun e w' he => ?_
  obtain ⟨rfl, d', n, os, hp, hs, rfl⟩ := he
  refine ⟨rfl, n, os, ?_⟩
  have : d' = (sortB ss).toArray := by
    obtain ⟨hz, _, hpm⟩ := hp
    rw [e1] at hz
    have ed : d'.extract 0 ss.length = d' := by rw [← hz]; simp
    have es : ss.toArray.extract 0 ss.length = ss.toArray := by simp
    rw [ed, es] at hpm
    have hsorted : d'.toList.Pairwise fun a b => ¬ b < a := by
      rw [List.pairwise_iff_getElem]
      intro i j hi hj hij
      rw [Array.length_toList] at hi hj
      have := hs i j (Nat.zero_le _) hij (by omega)
      rw [getElem!_pos d' j hj, getElem!_pos d' i hi] at this
      unfold ltOf at this
      intro hlt
      have h2 := (Go.Con.cmp_lt d'[j] d'[i]).2 hlt
      simp [h2] at this
    have := sortB_uniq hpm hsorted
    rw [← this]
  rw [this]; rfl
theorem sort_nil : SortNil := fun w => (AnyF.slices_SortFunc_none { Tryz.laysSlF6_f176 with } none 0 _ w).mono fun e w' he => ⟨he.1, by rw [he.2]; exact Below.refl _ _⟩
theorem names_sum {I : Inv} : SumOK Tryz.prog I 103 (sumNames 9) := sumNames_ok (by kernel_rfl) nil_walk (names_walk sort_ok sort_nil)
end Go.Proofs.YtlfldfkfojehiaaGreatDoor
namespace Go.Proofs.YtlfldfkfojehiaaGreatDoor
open Go Go.Ev Go.RowKit Go.Proofs Go.Lib
set_option linter.unusedSimpArgs false
set_option linter.unusedVariables false
set_option maxRecDepth 100000
theorem grow_zero (w : World) : Calls Tryz.prog 224 #[.slice none 0 0, .int .i64 0] w fun e w' => e = .returned (.slice none 0 0) ∧ Below w.heap.size w w' := by
  go_enter Tryz.func224, Tryz.ntmps224
  go_wp2
  go_ret
  exact ⟨rfl, Below.refl _ _⟩
theorem grow_some (n : Nat) (w : World) (h0 : 0 < n) (h1 : n ≤ 1073741824) : Calls Tryz.prog 224 #[.slice none 0 0, .int .i64 (n : Int)] w fun e w' => Below w.heap.size w w' ∧ ∃ cap cs, e = .returned (.slice (some ⟨w.heap.size, 0, none⟩) 0 cap) ∧ w'.heap[w.heap.size]? = some (.cells cs 28 (0, 0)) ∧ cs.size = cap := by
  obtain ⟨i0, hi, hz0, hz1, hz2⟩ := info_parts (P := Tryz.prog) (e := 28) (z := .int .u64 0) (size := 1) (bytes := 8) (by kernel_rfl)
  have hrz := fun ty => run_append_nil_zeros (P := Tryz.prog) w 30 3 ty 28 i0 (.int .u64 0) .i64 .i64 Tryz.underlying30 Tryz.underlying3 hi hz0 n h0 (by omega) (by omega) (by rw [hz2]; omega)
  have hG := grownCap_ge w n 0 28
  have hG2 := grownCap_le_maxLen w n 0 28 (by unfold maxLen; omega)
  unfold maxLen at hG2
  generalize grownCap w n 0 28 = G at hrz hG hG2
  have c1 : ¬ ((n : Int) < 0) := by omega
  have c2 : wrap64 ((n : Int) - 0) = (n : Int) := by unfold wrap64; omega
  have c3 : (n : Int) > 0 := by omega
  go_enter Tryz.func224, Tryz.ntmps224
  go_wp2_with (first
    | (at_builtin; refine wpList_append_run _ rfl _ _ _ _ rfl _ _ rfl rfl _ _ (hrz _) ?_)
    | go_in)
  go_ret
  have h1c : (Value.int IntKind.u64 0).cells.size = 1 := rfl
  have hcs : (Builtin.zeroCells (Value.int .u64 0).cells n ++ Builtin.zeroCells (Value.int .u64 0).cells (G - n)).size = G := by
    simp [Builtin.zeroCells, h1c]
    omega
  have hcs' : (Builtin.zeroCells #[Value.int .u64 0] n ++ Builtin.zeroCells #[Value.int .u64 0] (G - n)).size = G := hcs
  refine ⟨((Below.refl _ w).alloc (Nat.le_refl _) _).drew, ⟨G, rfl, _, ?_, hcs'⟩⟩
  show (w.heap.push _)[w.heap.size]? = _
  simp
theorem grow_sum {I : Inv} : SumOK Tryz.prog I 224 (sumGrow 28) := sumGrow_ok (by kernel_rfl) ⟨grow_zero, grow_some⟩
end Go.Proofs.YtlfldfkfojehiaaGreatDoor
namespace Go.Proofs.YtlfldfkfojehiaaGreatDoor
open Go Go.Ev Go.RowKit Go.Proofs Go.Lib
set_option linter.unusedSimpArgs false
set_option linter.unusedVariables false
set_option maxRecDepth 100000
theorem field_walk (a n : Nat) (h1 : 1 ≤ n) (h2 : a + n ≤ 36) (w : World) : Calls Tryz.prog 236 #[.int .i64 (a : Int), .int .i64 (n : Int)] w fun e w' => e = .returned (.tuple #[.int .u64 ((36 - a - n : Nat) : Int), .int .u64 ((2 ^ n - 1 : Nat) : Int), .bool true]) ∧ w' = w := by
  have c1 : ¬ ((n : Int) < 1) := by omega
  have c2 : ¬ ((n : Int) > 36) := by omega
  have c3 : ¬ ((a : Int) < 0) := by omega
  go_enter Tryz.func236, Tryz.ntmps236
  go_wp2
  all_goals go_ret3
  show Ending.returned (.tuple #[.int .u64 (36 - (a : Int) - n), .int .u64 (IntKind.u64.wrap (IntKind.u64.wrap (2 ^ n) - 1)), .bool true]) = _ ∧ w = w
  refine ⟨?_, rfl⟩
  have p1 := pow_le64 (k := n) (by omega)
  have p2 := Nat.two_pow_pos n
  have e1 : (36 - (a : Int) - n) = ((36 - a - n : Nat) : Int) := by omega
  have e2 : ((2 : Int) ^ n) = ((2 ^ n : Nat) : Int) := by push_cast; rfl
  rw [e1, e2, wrapN_lt (by omega), wrapU (by omega) (by omega)]
  have e3 : (((2 ^ n : Nat) : Int) - 1) = ((2 ^ n - 1 : Nat) : Int) := by omega
  rw [e3]
theorem bits_and {a b : Nat} (ha : a < 18446744073709551616) (hb : b < 18446744073709551616) : bits BinOp.and IntKind.u64 (a : Int) (b : Int) = ((a &&& b : Nat) : Int) := by
  show IntKind.u64.wrap (((BitVec.ofInt 64 (a : Int) &&& BitVec.ofInt 64 (b : Int)).toNat : Nat) : Int) = _
  rw [BitVec.toNat_and, bv_toNat ha, bv_toNat hb, wrapN_lt (and_lt ha)]
theorem bits_or {a b : Nat} (ha : a < 18446744073709551616) (hb : b < 18446744073709551616) : bits BinOp.or IntKind.u64 (a : Int) (b : Int) = ((a ||| b : Nat) : Int) := by
  show IntKind.u64.wrap (((BitVec.ofInt 64 (a : Int) ||| BitVec.ofInt 64 (b : Int)).toNat : Nat) : Int) = _
  rw [BitVec.toNat_or, bv_toNat ha, bv_toNat hb, wrapN_lt (or_lt ha hb)]
theorem bits_andNot {a b : Nat} (ha : a < 18446744073709551616) (hb : b < 18446744073709551616) : bits BinOp.andNot IntKind.u64 (a : Int) (b : Int) = ((a &&& (18446744073709551615 - b) : Nat) : Int) := by
  show IntKind.u64.wrap (((BitVec.ofInt 64 (a : Int) &&& ~~~ BitVec.ofInt 64 (b : Int)).toNat : Nat) : Int) = _
  rw [BitVec.toNat_and, BitVec.toNat_not, bv_toNat ha, bv_toNat hb, wrapN_lt (and_lt ha)]
theorem get_walk (x a n : Nat) (hx : x < 18446744073709551616) (h1 : 1 ≤ n) (h2 : a + n ≤ 36) (w : World) : Calls Tryz.prog 193 #[.int .u64 (x : Int), .int .i64 (a : Int), .int .i64 (n : Int)] w fun e w' => e = .returned (.tuple #[.int .u64 ((getF x a n : Nat) : Int), .int .i64 0]) ∧ w' = w := by
  have hf := field_walk a n h1 h2 w
  have c1 : ¬ (((36 - a - n : Nat) : Int) < 0) := by omega
  go_enter Tryz.func193, Tryz.ntmps193
  go_wp2_with (go_at_call 236; refine hf.mono ?_; rintro e w' ⟨rfl, hw⟩; rw [hw])
  all_goals go_ret2
  show Ending.returned (.tuple #[.int .u64 (bits BinOp.and IntKind.u64 ((x : Int) / 2 ^ (36 - a - n)) ((2 ^ n - 1 : Nat) : Int)), .int .i64 0]) = _ ∧ w = w
  refine ⟨?_, rfl⟩
  have p1 := pow_le64 (k := n) (by omega)
  have p2 := Nat.two_pow_pos n
  have e2 : ((x : Int) / 2 ^ (36 - a - n)) = ((x / 2 ^ (36 - a - n) : Nat) : Int) := by push_cast; rfl
  rw [e2, bits_and (Nat.lt_of_le_of_lt (Nat.div_le_self _ _) hx) (by omega), Nat.and_two_pow_sub_one_eq_mod]
  rfl
theorem put_walk (x a n v : Nat) (hx : x < 18446744073709551616) (hv : v < 18446744073709551616) (h1 : 1 ≤ n) (h2 : a + n ≤ 36) (w : World) : Calls Tryz.prog 192 #[.int .u64 (x : Int), .int .i64 (a : Int), .int .i64 (n : Int), .int .u64 (v : Int)] w fun e w' => e = .returned (.tuple #[.int .u64 ((putF x a n v : Nat) : Int), .int .i64 0]) ∧ w' = w := by
  have hf := field_walk a n h1 h2 w
  have c1 : ¬ (((36 - a - n : Nat) : Int) < 0) := by omega
  go_enter Tryz.func192, Tryz.ntmps192
  go_wp2_with (go_at_call 236; refine hf.mono ?_; rintro e w' ⟨rfl, hw⟩; rw [hw])
  all_goals go_ret2
  show Ending.returned (.tuple #[.int .u64 (bits BinOp.or IntKind.u64 (bits BinOp.andNot IntKind.u64 (bits BinOp.and IntKind.u64 (x : Int) 68719476735) (IntKind.u64.wrap (((2 ^ n - 1 : Nat) : Int) * 2 ^ (36 - a - n)))) (IntKind.u64.wrap (bits BinOp.and IntKind.u64 (v : Int) ((2 ^ n - 1 : Nat) : Int) * 2 ^ (36 - a - n)))), .int .i64 0]) = _ ∧ w = w
  refine ⟨?_, rfl⟩
  have p1 := pow_le64 (k := n) (by omega)
  have p2 := Nat.two_pow_pos n
  have hm : 2 ^ n - 1 < 2 ^ n := by omega
  have hs := shl_lt (b := 36 - a - n) (by omega) hm
  have hv1 : v &&& (2 ^ n - 1) < 2 ^ n := Nat.lt_of_le_of_lt Nat.and_le_right hm
  have hs2 := shl_lt (b := 36 - a - n) (by omega) hv1
  have e1 : bits BinOp.and IntKind.u64 (x : Int) 68719476735 = ((x &&& 68719476735 : Nat) : Int) := bits_and (b := 68719476735) hx (by decide)
  have e2 : ((2 ^ n - 1 : Nat) : Int) * 2 ^ (36 - a - n) = (((2 ^ n - 1) * 2 ^ (36 - a - n) : Nat) : Int) := by push_cast; rfl
  have e3 : bits BinOp.and IntKind.u64 (v : Int) ((2 ^ n - 1 : Nat) : Int) = ((v &&& (2 ^ n - 1) : Nat) : Int) := bits_and hv (by omega)
  have e4 : ((v &&& (2 ^ n - 1) : Nat) : Int) * 2 ^ (36 - a - n) = (((v &&& (2 ^ n - 1)) * 2 ^ (36 - a - n) : Nat) : Int) := by push_cast; rfl
  rw [e1, e2, e3, e4, wrapN_lt (by omega), wrapN_lt (by omega), bits_andNot (and_lt hx) (by omega), bits_or (and_lt (and_lt hx)) (by omega)]
  rfl
theorem get_sum {I : Inv} : SumOK Tryz.prog I 193 sumGet := by
  intro args h v h' e m w args' r hi hv
  unfold sumGet at e
  split at e
  · rename_i x a n
    cases hd : (decide (0 ≤ x) && decide (x < 18446744073709551616) && decide (0 ≤ a) && decide (1 ≤ n) && decide (a + n ≤ 36)) with
    | false => rw [hd] at e; cases e
    | true =>
      rw [hd] at e
      simp only [cond_true, Option.some.injEq, Prod.mk.injEq] at e
      simp only [Bool.and_eq_true, decide_eq_true_eq] at hd
      obtain ⟨rfl, rfl⟩ := e
      cases hv with
      | cons a1 t1 => cases t1 with
        | cons a2 t2 => cases t2 with
          | cons a3 t3 =>
            cases t3; cases a1; cases a2; cases a3
            obtain ⟨x', rfl⟩ : ∃ k : Nat, x = (k : Int) := ⟨x.toNat, by omega⟩
            obtain ⟨a', rfl⟩ : ∃ k : Nat, a = (k : Int) := ⟨a.toNat, by omega⟩
            obtain ⟨n', rfl⟩ : ∃ k : Nat, n = (k : Int) := ⟨n.toNat, by omega⟩
            refine (get_walk x' a' n' (by omega) (by omega) (by omega) w).mono fun e w' he => ?_
            obtain ⟨rfl, rfl⟩ := he
            exact ⟨_, m, rfl, r, Step.refl _ _ _, .tuple (.cons (.int _ _) (.cons (.int _ _) .nil))⟩
  · cases e
theorem put_sum {I : Inv} : SumOK Tryz.prog I 192 sumPut := by
  intro args h v h' e m w args' r hi hv
  unfold sumPut at e
  split at e
  · rename_i x a n y
    cases hd : (decide (0 ≤ x) && decide (x < 18446744073709551616) && decide (0 ≤ y) && decide (y < 18446744073709551616) && decide (0 ≤ a) && decide (1 ≤ n) && decide (a + n ≤ 36)) with
    | false => rw [hd] at e; cases e
    | true =>
      rw [hd] at e
      simp only [cond_true, Option.some.injEq, Prod.mk.injEq] at e
      simp only [Bool.and_eq_true, decide_eq_true_eq] at hd
      obtain ⟨rfl, rfl⟩ := e
      cases hv with
      | cons a1 t1 => cases t1 with
        | cons a2 t2 => cases t2 with
          | cons a3 t3 => cases t3 with
            | cons a4 t4 =>
              cases t4; cases a1; cases a2; cases a3; cases a4
              obtain ⟨x', rfl⟩ : ∃ k : Nat, x = (k : Int) := ⟨x.toNat, by omega⟩
              obtain ⟨y', rfl⟩ : ∃ k : Nat, y = (k : Int) := ⟨y.toNat, by omega⟩
              obtain ⟨a', rfl⟩ : ∃ k : Nat, a = (k : Int) := ⟨a.toNat, by omega⟩
              obtain ⟨n', rfl⟩ : ∃ k : Nat, n = (k : Int) := ⟨n.toNat, by omega⟩
              refine (put_walk x' a' n' y' (by omega) (by omega) (by omega) (by omega) w).mono fun e w' he => ?_
              obtain ⟨rfl, rfl⟩ := he
              exact ⟨_, m, rfl, r, Step.refl _ _ _, .tuple (.cons (.int _ _) (.cons (.int _ _) .nil))⟩
  · cases e
end Go.Proofs.YtlfldfkfojehiaaGreatDoor
namespace Go.Proofs.YtlfldfkfojehiaaGreatDoor
open Go Go.Ev Go.RowKit
set_option linter.unusedSimpArgs false
set_option linter.unusedVariables false
set_option maxRecDepth 100000
theorem mask_p0 : ((List.range' 0 60).all fun f => !(mask.testBit f) || okF Tryz.prog f) = true := by kernel_rfl
theorem mask_p1 : ((List.range' 60 60).all fun f => !(mask.testBit f) || okF Tryz.prog f) = true := by kernel_rfl
theorem mask_p2 : ((List.range' 120 60).all fun f => !(mask.testBit f) || okF Tryz.prog f) = true := by kernel_rfl
theorem mask_p3 : ((List.range' 180 60).all fun f => !(mask.testBit f) || okF Tryz.prog f) = true := by kernel_rfl
theorem mask_p4 : ((List.range' 240 60).all fun f => !(mask.testBit f) || okF Tryz.prog f) = true := by kernel_rfl
theorem mask_p5 : ((List.range' 300 18).all fun f => !(mask.testBit f) || okF Tryz.prog f) = true := by kernel_rfl
theorem mask_all : ∀ f, f < 318 → (!(mask.testBit f) || okF Tryz.prog f) = true := by
  intro f hf
  by_cases h0 : f < 60
  · exact mask_part mask_p0 f (by omega) (by omega)
  by_cases h1 : f < 120
  · exact mask_part mask_p1 f (by omega) (by omega)
  by_cases h2 : f < 180
  · exact mask_part mask_p2 f (by omega) (by omega)
  by_cases h3 : f < 240
  · exact mask_part mask_p3 f (by omega) (by omega)
  by_cases h4 : f < 300
  · exact mask_part mask_p4 f (by omega) (by omega)
  exact mask_part mask_p5 f (by omega) (by omega)
theorem ctx_mix : ctx.P.follows .mixedOrders = true := by kernel_rfl
theorem good1 : GoodF Tryz.prog 220 := ⟨Tryz.f220, Tryz.func220, by kernel_rfl, by kernel_rfl⟩
theorem good3 : GoodF Tryz.prog 179 := ⟨Tryz.f179, Tryz.func179, by kernel_rfl, by kernel_rfl⟩
theorem good4 : GoodF Tryz.prog 103 := ⟨Tryz.f103, Tryz.func103, by kernel_rfl, by kernel_rfl⟩
theorem good7 : GoodF Tryz.prog 224 := ⟨Tryz.f224, Tryz.func224, by kernel_rfl, by kernel_rfl⟩
theorem good8 : GoodF Tryz.prog 193 := ⟨Tryz.f193, Tryz.func193, by kernel_rfl, by kernel_rfl⟩
theorem good9 : GoodF Tryz.prog 192 := ⟨Tryz.f192, Tryz.func192, by kernel_rfl, by kernel_rfl⟩
theorem sumAt_mem {f : Nat} {s : Sum} : ∀ {l : List (Nat × Sum)}, sumAt f l = some s → (f, s) ∈ l
  | (g, t) :: l, h => by
    unfold sumAt at h
    cases hb : Nat.beq f g with
    | true =>
      rw [hb] at h
      simp only [cond_true, Option.some.injEq] at h
      obtain rfl := Nat.eq_of_beq_eq_true hb
      rw [h]; exact List.mem_cons_self
    | false => rw [hb] at h; exact List.mem_cons_of_mem _ (sumAt_mem h)
theorem sums_good {I : Inv} (hI : ∀ m h w, I m h w → ∃ mx, w.cell? ⟨0, 0, none⟩ = some (.int .i64 mx)) : ∀ p ∈ sums, GoodF Tryz.prog p.1 ∧ SumOK Tryz.prog I p.1 p.2 := by
  intro p hp
  rcases List.mem_cons.1 hp with rfl | hp
  · exact ⟨good1, sumSplit_ok hI Tryz.strings_Split⟩
  rcases List.mem_cons.1 hp with rfl | hp
  · exact ⟨good3, sumCmp_ok (I := I) Tryz.strings_Compare⟩
  rcases List.mem_cons.1 hp with rfl | hp
  · exact ⟨good4, names_sum (I := I)⟩
  rcases List.mem_cons.1 hp with rfl | hp
  · exact ⟨good7, grow_sum (I := I)⟩
  rcases List.mem_cons.1 hp with rfl | hp
  · exact ⟨good8, get_sum (I := I)⟩
  rcases List.mem_cons.1 hp with rfl | hp
  · exact ⟨good9, put_sum (I := I)⟩
  cases hp
theorem ctx_ok {I : Inv} (hI : ∀ m h w, I m h w → ∃ mx, w.cell? ⟨0, 0, none⟩ = some (.int .i64 mx)) : CtxOK ctx I (regOk ctx.P) := by
  refine ⟨fun f hf => mask_ok_shift (k := 318) (by kernel_rfl) mask_all f hf, fun f s hs args h v h' e => ?_⟩
  obtain ⟨h1, h2⟩ := sums_good hI (f, s) (sumAt_mem hs)
  exact ⟨h1, h2 args h v h' e⟩
theorem maxLen {w : World} (h : w.ShapedOpen Tryz.prog) : ∃ m, w.cell? ⟨0, 0, none⟩ = some (.int .i64 m) :=
  Go.Proofs.cell_of_shapedOpen_int (zero := #[.int .i64 0]) (t := 3) h (of_decide_eq_true (by kernel_rfl)) (by kernel_rfl) rfl (by kernel_rfl) (by kernel_rfl) Tryz.underlying3
end Go.Proofs.YtlfldfkfojehiaaGreatDoor
namespace Go.Ev
open Go
set_option linter.unusedSimpArgs false
set_option linter.unusedVariables false
noncomputable section
def fI2 (g : IntKind → Int → Int → Value) (e : Option Value) (a b : Value) : Option Value := match a with
  | .int j x => match b with
    | .int k y => bif decide (j = k) then some (g k x y) else e
    | _ => e
  | _ => e
def gAdd (k : IntKind) (x y : Int) : Value := .int k (k.wrap (x + y))
def gSub (k : IntKind) (x y : Int) : Value := .int k (k.wrap (x - y))
def gMul (k : IntKind) (x y : Int) : Value := .int k (k.wrap (x * y))
def gEql (_ : IntKind) (x y : Int) : Value := .bool (x == y)
def gNeq (_ : IntKind) (x y : Int) : Value := .bool (x != y)
def gLss (_ : IntKind) (x y : Int) : Value := .bool (decide (x < y))
def gLeq (_ : IntKind) (x y : Int) : Value := .bool (decide (x ≤ y))
def gGtr (_ : IntKind) (x y : Int) : Value := .bool (decide (y < x))
def gGeq (_ : IntKind) (x y : Int) : Value := .bool (decide (y ≤ x))
def fBin (P : Program) (op : BinOp) (t : TypeId) (xo yo : Operand) (a b : Value) : Option Value := match op with
  | .add => fI2 gAdd (evBin P op t xo yo a b) a b
  | .sub => fI2 gSub (evBin P op t xo yo a b) a b
  | .mul => fI2 gMul (evBin P op t xo yo a b) a b
  | .eql => fI2 gEql (evBin P op t xo yo a b) a b
  | .neq => fI2 gNeq (evBin P op t xo yo a b) a b
  | .lss => fI2 gLss (evBin P op t xo yo a b) a b
  | .leq => fI2 gLeq (evBin P op t xo yo a b) a b
  | .gtr => fI2 gGtr (evBin P op t xo yo a b) a b
  | .geq => fI2 gGeq (evBin P op t xo yo a b) a b
  | _ => evBin P op t xo yo a b
theorem fI2_eq {P : Program} {op : BinOp} {t : TypeId} {xo yo : Operand} {g : IntKind → Int → Int → Value} (h : ∀ k x y, evBin P op t xo yo (.int k x) (.int k y) = some (g k x y)) (a b : Value) : fI2 g (evBin P op t xo yo a b) a b = evBin P op t xo yo a b := by
  unfold fI2
  split
  · split
    · rename_i j x _ k y
      by_cases hk : j = k
      · subst hk; rw [decide_eq_true rfl, h]; rfl
      · rw [decide_eq_false hk]; rfl
    · rfl
  · rfl
theorem fBin_eq (P : Program) (op : BinOp) (t : TypeId) (xo yo : Operand) (a b : Value) : fBin P op t xo yo a b = evBin P op t xo yo a b := by
  unfold fBin
  cases op <;> first
    | rfl
    | exact fI2_eq (fun _ _ _ => evBin_add) a b
    | exact fI2_eq (fun _ _ _ => evBin_sub) a b
    | exact fI2_eq (fun _ _ _ => evBin_mul) a b
    | exact fI2_eq (fun _ _ _ => evBin_eql) a b
    | exact fI2_eq (fun _ _ _ => evBin_neq) a b
    | exact fI2_eq (fun _ _ _ => evBin_lss) a b
    | exact fI2_eq (fun _ _ _ => evBin_leq) a b
    | exact fI2_eq (fun _ _ _ => evBin_gtr) a b
    | exact fI2_eq (fun _ _ _ => evBin_geq) a b
section
variable {α : Type}
def pthF : Nat → Nat → List Bool
  | 0, _ => []
  | f + 1, k => match k with
    | 0 => []
    | j + 1 => Nat.beq (j % 2) 0 :: pthF f (j / 2)
def pth (k : Nat) : List Bool := pthF (k + 1) k
def getP (p : List Bool) : Tr α → Option α :=
  List.rec (motive := fun _ => Tr α → Option α) (fun t => Tr.rec (motive := fun _ => Option α) none (fun _ v _ _ _ => v) t)
    (fun b _ ih t => Tr.rec (motive := fun _ => Option α) none (fun l _ r _ _ => ih (Bool.rec (motive := fun _ => Tr α) r l b)) t) p
def setP (p : List Bool) (a : α) : Tr α → Tr α :=
  List.rec (motive := fun _ => Tr α → Tr α) (fun t => Tr.rec (motive := fun _ => Tr α) (.n .e (some a) .e) (fun l _ r _ _ => .n l (some a) r) t)
    (fun b _ ih t => Tr.rec (motive := fun _ => Tr α) (Bool.rec (motive := fun _ => Tr α) (.n .e none (ih .e)) (.n (ih .e) none .e) b) (fun l v r _ _ => Bool.rec (motive := fun _ => Tr α) (.n l v (ih r)) (.n (ih l) v r) b) t) p
theorem getP_eq : ∀ (f k : Nat) (t : Tr α), k < f → getP (pthF f k) t = t.get k
  | 0, _, _, h => absurd h (by omega)
  | f + 1, k, t, h => by
    cases k with
    | zero => cases t <;> rfl
    | succ j =>
      have hj : j / 2 < f := by omega
      show getP (Nat.beq (j % 2) 0 :: pthF f (j / 2)) t = _
      cases t with
      | e => rfl
      | n l v r =>
        show getP (pthF f (j / 2)) (Bool.rec (motive := fun _ => Tr α) r l (Nat.beq (j % 2) 0)) = bif Nat.beq (j % 2) 0 then l.get (j / 2) else r.get (j / 2)
        rw [getP_eq f _ _ hj]
        cases Nat.beq (j % 2) 0 <;> rfl
theorem setP_eq (a : α) : ∀ (f k : Nat) (t : Tr α), k < f → setP (pthF f k) a t = Tr.setF f t k a
  | 0, _, _, h => absurd h (by omega)
  | f + 1, k, t, h => by
    cases k with
    | zero => cases t <;> rfl
    | succ j =>
      have hj : j / 2 < f := by omega
      show setP (Nat.beq (j % 2) 0 :: pthF f (j / 2)) a t = _
      cases t with
      | e =>
        show Bool.rec (motive := fun _ => Tr α) (Tr.n .e none (setP (pthF f (j / 2)) a .e)) (Tr.n (setP (pthF f (j / 2)) a .e) none .e) (Nat.beq (j % 2) 0) = bif Nat.beq (j % 2) 0 then Tr.n (Tr.setF f .e (j / 2) a) none .e else Tr.n .e none (Tr.setF f .e (j / 2) a)
        rw [setP_eq a f _ _ hj]
        cases Nat.beq (j % 2) 0 <;> rfl
      | n l v r =>
        show Bool.rec (motive := fun _ => Tr α) (Tr.n l v (setP (pthF f (j / 2)) a r)) (Tr.n (setP (pthF f (j / 2)) a l) v r) (Nat.beq (j % 2) 0) = bif Nat.beq (j % 2) 0 then Tr.n (Tr.setF f l (j / 2) a) v r else Tr.n l v (Tr.setF f r (j / 2) a)
        rw [setP_eq a f _ _ hj, setP_eq a f _ _ hj]
        cases Nat.beq (j % 2) 0 <;> rfl
def gG (t : Tr α) : Nat → Option α :=
  Tr.rec (motive := fun _ => Nat → Option α) (fun _ => none)
    (fun _ v _ il ir k => Nat.rec (motive := fun _ => Option α) v (fun j _ => Bool.rec (motive := fun _ => Option α) (ir (Nat.div j 2)) (il (Nat.div j 2)) (Nat.beq (Nat.mod j 2) 0)) k) t
theorem gG_eq : ∀ (t : Tr α) (k : Nat), gG t k = t.get k
  | .e, k => by cases k <;> rfl
  | .n l v r, k => by
    cases k with
    | zero => rfl
    | succ j =>
      show Bool.rec (motive := fun _ => Option α) (gG r (j / 2)) (gG l (j / 2)) (Nat.beq (j % 2) 0) = bif Nat.beq (j % 2) 0 then l.get (j / 2) else r.get (j / 2)
      rw [gG_eq l, gG_eq r]
      cases Nat.beq (j % 2) 0 <;> rfl
def tL (t : Tr α) : Tr α := Tr.rec (motive := fun _ => Tr α) .e (fun l _ _ _ _ => l) t
def tV (t : Tr α) : Option α := Tr.rec (motive := fun _ => Option α) none (fun _ v _ _ _ => v) t
def tR (t : Tr α) : Tr α := Tr.rec (motive := fun _ => Tr α) .e (fun _ _ r _ _ => r) t
def gS (a : α) (f : Nat) : Tr α → Nat → Tr α :=
  Nat.rec (motive := fun _ => Tr α → Nat → Tr α) (fun t _ => t)
    (fun _ ih t k => Nat.rec (motive := fun _ => Tr α) (.n (tL t) (some a) (tR t)) (fun j _ => Bool.rec (motive := fun _ => Tr α) (.n (tL t) (tV t) (ih (tR t) (Nat.div j 2))) (.n (ih (tL t) (Nat.div j 2)) (tV t) (tR t)) (Nat.beq (Nat.mod j 2) 0)) k) f
theorem gS_eq (a : α) : ∀ (f : Nat) (t : Tr α) (k : Nat), gS a f t k = Tr.setF f t k a
  | 0, _, _ => rfl
  | f + 1, t, k => by
    cases k with
    | zero => cases t <;> rfl
    | succ j =>
      show Bool.rec (motive := fun _ => Tr α) (Tr.n (tL t) (tV t) (gS a f (tR t) (j / 2))) (Tr.n (gS a f (tL t) (j / 2)) (tV t) (tR t)) (Nat.beq (j % 2) 0) = _
      rw [gS_eq a f, gS_eq a f]
      cases t with
      | e =>
        show _ = bif Nat.beq (j % 2) 0 then Tr.n (Tr.setF f .e (j / 2) a) none .e else Tr.n .e none (Tr.setF f .e (j / 2) a)
        cases Nat.beq (j % 2) 0 <;> rfl
      | n l v r =>
        show _ = bif Nat.beq (j % 2) 0 then Tr.n (Tr.setF f l (j / 2) a) v r else Tr.n l v (Tr.setF f r (j / 2) a)
        cases Nat.beq (j % 2) 0 <;> rfl
end
def fGet (fr : Fr) (k : Nat) : Option Value := getP (pth k) fr
theorem fGet_eq (fr : Fr) (k : Nat) : fGet fr k = fr.get k := getP_eq _ _ _ (Nat.lt_succ_self k)
def fPut (fr : Fr) (dst : Option Tmp) (v : Value) : Fr := Option.rec (motive := fun _ => Fr) fr (fun d => setP (pth d) v fr) dst
theorem fPut_eq (fr : Fr) (dst : Option Tmp) (v : Value) : fPut fr dst v = put fr dst v := by
  cases dst with
  | none => rfl
  | some d => exact setP_eq v _ _ _ (Nat.lt_succ_self d)
def fEv (fr : Fr) (x : Operand) : Option Value := match x with
  | .tmp t => fGet fr t
  | .const v => bif flat v then some v else none
  | .func f => some (.func (.func f) #[] #[])
  | .global _ => none
theorem fEv_eq (fr : Fr) (x : Operand) : fEv fr x = ev1 fr x := by cases x <;> first | exact fGet_eq _ _ | rfl
def fEvs (fr : Fr) : List Operand → Option (List Value)
  | [] => some []
  | x :: l => match fEv fr x with
    | some v => match fEvs fr l with
      | some vs => some (v :: vs)
      | none => none
    | none => none
theorem fEvs_eq (fr : Fr) : ∀ l, fEvs fr l = evs fr l
  | [] => rfl
  | x :: l => by
    unfold fEvs evs
    rw [fEv_eq, fEvs_eq fr l]
    cases ev1 fr x with
    | none => rfl
    | some v => cases evs fr l <;> rfl
def fWantV (want : Bool) : Option Value → Option Bool
  | some (.bool b) => some (b == want)
  | some (.tuple _) => some false
  | _ => none
def fWanted (ops : Array Oper) (fr : Fr) (o : Oper) : Option Bool := match o.guard with
  | none => some true
  | some (j, want) => fWantV want (((ops[j]?).bind (·.dst)).bind (fGet fr))
theorem fWanted_eq (ops : Array Oper) (fr : Fr) (o : Oper) : fWanted ops fr o = evWanted ops fr o := by
  unfold fWanted evWanted
  cases o.guard with
  | none => rfl
  | some q =>
    obtain ⟨j, want⟩ := q
    have : fGet fr = fr.get := funext (fGet_eq fr)
    simp only [this]
    rfl
def hGet (h : Hp) (b : Nat) : Option Ob := gG h.t b
theorem hGet_eq (h : Hp) (b : Nat) : hGet h b = h.get b := gG_eq _ _
def hSet (h : Hp) (b : Nat) (o : Ob) : Hp := ⟨gS o (b + 1) h.t b, h.next⟩
theorem hSet_eq (h : Hp) (b : Nat) (o : Ob) : hSet h b o = h.set b o := by unfold hSet; rw [gS_eq]; rfl
def hPush (h : Hp) (o : Ob) : Hp := ⟨gS o (h.next + 1) h.t h.next, h.next + 1⟩
theorem hPush_eq (h : Hp) (o : Ob) : hPush h o = h.push o := by unfold hPush; rw [gS_eq]; rfl
def fRowO : Option Ob → Option (List Value)
  | some (.row cs _ st) => match st with
    | .dead => none
    | _ => some cs
  | _ => none
theorem fRow_eq (h : Hp) (b : Nat) : fRowO (hGet h b) = rowOf h b := by
  rw [hGet_eq]; unfold rowOf fRowO
  cases h.get b with
  | none => rfl
  | some o => cases o with
    | row cs e st => cases st <;> rfl
    | map es c => rfl
def fLd (P : Program) (t : TypeId) (o : Nat) : Option (List Value) → Option Value
  | some cs => evPart P t cs o
  | none => none
def fLoad (P : Program) (t : TypeId) (h : Hp) (v : Value) : Option Value := match v with
  | .pointer (some ⟨b, o, none⟩) => fLd P t o (fRowO (hGet h b))
  | _ => none
theorem fLoad_eq (P : Program) (t : TypeId) (h : Hp) (v : Value) : fLoad P t h v = evLoad P t v h := by
  unfold fLoad
  split
  · show _ = (rowOf h _).bind fun cs => evPart P t cs _
    rw [fRow_eq]; cases rowOf h _ <;> rfl
  · rename_i hn
    unfold evLoad
    split
    · rename_i b o; exact absurd rfl (hn b o)
    · rfl
def fWrO (h : Hp) (b o : Nat) (vs : List Value) : Option Ob → Option Hp
  | some (.row cs e st) => match st with
    | .rw base olds => bif decide (o + vs.length ≤ cs.length) && vs.all isCell then
        bif decide (base ≤ o) then some (hSet h b (.row (splice cs o vs) e (.rw base olds)))
        else some ((kill h olds).set b (.row (splice cs o vs) e (.rw 0 [])))
      else none
    | _ => none
  | _ => none
theorem fWrO_eq (h : Hp) (b o : Nat) (vs : List Value) : fWrO h b o vs (hGet h b) = writeAt h b o vs := by
  rw [hGet_eq]; unfold writeAt fWrO
  cases h.get b with
  | none => rfl
  | some ob => cases ob with
    | row cs e st => cases st <;> first | rfl | (simp only [hSet_eq])
    | map es c => rfl
def fSto (P : Program) (t : TypeId) (h : Hp) (a v : Value) : Option Hp := match a with
  | .pointer (some ⟨b, o, none⟩) => bif tSize P t == some v.cells.size then fWrO h b o v.cells.toList (hGet h b) else none
  | _ => none
theorem fSto_eq (P : Program) (t : TypeId) (h : Hp) (a v : Value) : fSto P t h a v = evStore P t a v h := by
  unfold fSto
  split
  · show _ = bif tSize P t == some v.cells.size then writeAt h _ _ v.cells.toList else none
    rw [fWrO_eq]
  · rename_i hn
    unfold evStore
    split
    · rename_i b o; exact absurd rfl (hn b o)
    · rfl
def f1 (fr : Fr) (x : Operand) (g : Value → Option Value) : Option Value := match fEv fr x with
  | some v => g v
  | none => none
def f2 (fr : Fr) (x y : Operand) (g : Value → Value → Option Value) : Option Value := match fEv fr x with
  | some v => match fEv fr y with
    | some u => g v u
    | none => none
  | none => none
theorem f1_eq (fr : Fr) (x : Operand) (g : Value → Option Value) : f1 fr x g = (ev1 fr x).bind g := by unfold f1; rw [fEv_eq]; cases ev1 fr x <;> rfl
theorem f2_eq (fr : Fr) (x y : Operand) (g : Value → Value → Option Value) : f2 fr x y g = (ev1 fr x).bind fun a => (ev1 fr y).bind fun b => g a b := by unfold f2; rw [fEv_eq, fEv_eq]; cases ev1 fr x <;> cases ev1 fr y <;> rfl
def fPick2 (fr : Fr) (a b : Operand) : Value → Option Value
  | .bool true => fEv fr a
  | .bool false => fEv fr b
  | _ => none
def fNot (e : Option Value) : Value → Option Value
  | .bool b => some (.bool (!b))
  | _ => e
def fUn (P : Program) (op : UnOp) (a : Value) : Option Value := match op with
  | .not => fNot (bif scal a then prunS P (Op.unary op a) else none) a
  | _ => bif scal a then prunS P (Op.unary op a) else none
def fNilC : Value → Option Value
  | .pointer (some a) => some (.pointer (some a))
  | _ => none
def fEx (i : Nat) : Value → Option Value
  | .tuple vs => vs[i]?
  | _ => none
def fConv (P : Program) (s d : TypeId) (a : Value) : Option Value := bif scal a then prunS P (convert s d a) else none
def fPure (P : Program) (fr : Fr) (o : Oper) : Option Value := match o.op with
  | .move x => fEv fr x
  | .assign x => fEv fr x
  | .pick c a b => f1 fr c (fPick2 fr a b)
  | .nilCheck x => f1 fr x fNilC
  | .binOp op t x y _ => f2 fr x y (fBin P op t x y)
  | .unOp op _ x => f1 fr x (fUn P op)
  | .convert s d x => f1 fr x (fConv P s d)
  | .fieldAddr t x i => f1 fr x fun a => evFieldAddr P t a i
  | .field t x i => f1 fr x fun a => evField P t a i
  | .indexAddr t x i => f2 fr x i (evIndexAddr P t)
  | .extract x i => f1 fr x (fEx i)
  | .call c => evPureCall P fr c o.type
  | _ => evPure P fr o
theorem fPure_eq (P : Program) (fr : Fr) (o : Oper) : fPure P fr o = evPure P fr o := by
  unfold fPure
  have e : ∀ q, o.op = q → evPure P fr o = evPure P fr { o with op := q } := fun q h => by subst h; rfl
  cases hq : o.op with
  | binOp op t x y ty =>
    rw [e _ hq]
    simp only [f2_eq]
    show _ = (ev1 fr x).bind fun a => (ev1 fr y).bind fun b => evBin P op t x y a b
    simp only [fBin_eq]
  | unOp op t x =>
    rw [e _ hq]
    simp only [f1_eq]
    show _ = (ev1 fr x).bind fun a => bif scal a then prunS P (Op.unary op a) else none
    congr 1
    funext a
    unfold fUn
    cases op <;> first | rfl | (cases a <;> rfl)
  | move x => rw [e _ hq]; exact fEv_eq _ _
  | assign x => rw [e _ hq]; exact fEv_eq _ _
  | pick c a b =>
    rw [e _ hq]; simp only [f1_eq]
    have k : fPick2 fr a b = fun | .bool true => ev1 fr a | .bool false => ev1 fr b | _ => none := by funext v; unfold fPick2; rw [fEv_eq, fEv_eq]
    rw [k]; rfl
  | nilCheck x => rw [e _ hq]; simp only [f1_eq]; rfl
  | convert s d x => rw [e _ hq]; simp only [f1_eq]; rfl
  | fieldAddr t x i => rw [e _ hq]; simp only [f1_eq]; rfl
  | field t x i => rw [e _ hq]; simp only [f1_eq]; rfl
  | indexAddr t x i => rw [e _ hq]; simp only [f2_eq]; rfl
  | extract x i => rw [e _ hq]; simp only [f1_eq]; rfl
  | call c => rw [e _ hq]; rfl
  | _ => rfl
def fRead (P : Program) (fr : Fr) (o : Oper) (h : Hp) : Option Value := match o.op with
  | .load t x => match f1 fr x (fLoad P t h) with
    | some v => some v
    | none => evPure P fr o
  | _ => match evRead P fr o h with
    | some v => some v
    | none => fPure P fr o
theorem fRead_eq (P : Program) (fr : Fr) (o : Oper) (h : Hp) : fRead P fr o h = evReadOrPure P fr o h := by
  unfold fRead evReadOrPure
  rw [fPure_eq]
  have e : ∀ q, o.op = q → evRead P fr o h = evRead P fr { o with op := q } h := fun q h => by subst h; rfl
  cases hq : o.op with
  | load t x =>
    rw [e _ hq]; simp only [f1_eq]
    have k : fLoad P t h = fun a => evLoad P t a h := funext (fLoad_eq P t h)
    rw [k]; rfl
  | _ => rfl
def fMk (h : Hp) : Option (Ob × (Nat → Value)) → Option (Value × Hp)
  | some (ob, mk) => some (mk h.next, hPush h ob)
  | none => none
def fWith (h : Hp) : Option Value → Option (Value × Hp)
  | some v => some (v, h)
  | none => none
def fSt : Option Hp → Option (Value × Hp)
  | some h => some (undef, h)
  | none => none
def fStore (P : Program) (t : TypeId) (h : Hp) (fr : Fr) (a x : Operand) : Option (Value × Hp) := match fEv fr a with
  | some a => match fEv fr x with
    | some v => fSt (fSto P t h a v)
    | none => none
  | none => none
def fGo (call : CallF) (h : Hp) (vs : Option (List Value)) : Value → Option (Value × Hp)
  | .func (.func g) first captured => match vs with
    | some vs => call g (first.toList ++ vs ++ captured.toList) h
    | none => none
  | _ => none
def fCallO (P : Program) (call : CallF) (fr : Fr) (c : Call) (h : Hp) : Option (Value × Hp) := match c.callee with
  | .value f => match fEv fr f with
    | some v => fGo call h (fEvs fr c.args.toList) v
    | none => none
  | _ => evEffCall P call fr c h
def fEff (P : Program) (call : CallF) (fr : Fr) (o : Oper) (h : Hp) : Option (Value × Hp) := match o.op with
  | .store t a x => fStore P t h fr a x
  | .call c => fCallO P call fr c h
  | _ => evEff P call fr o h
theorem fEff_eq (P : Program) (call : CallF) (fr : Fr) (o : Oper) (h : Hp) : fEff P call fr o h = evEff P call fr o h := by
  unfold fEff
  have e : ∀ q, o.op = q → evEff P call fr o h = evEff P call fr { o with op := q } h := fun q h => by subst h; rfl
  cases hq : o.op with
  | store t a x =>
    rw [e _ hq]
    show fStore P t h fr a x = (ev1 fr a).bind fun a => (ev1 fr x).bind fun v => (evStore P t a v h).map fun h => (undef, h)
    unfold fStore
    rw [fEv_eq, fEv_eq]
    cases ev1 fr a with
    | none => rfl
    | some a => cases ev1 fr x with
      | none => rfl
      | some v => simp only [Option.bind_some, fSto_eq]; cases evStore P t a v h <;> rfl
  | call c =>
    rw [e _ hq]
    show fCallO P call fr c h = evEffCall P call fr c h
    unfold fCallO
    simp only [fEv_eq, fEvs_eq]
    have e2 : ∀ q, c.callee = q → evEffCall P call fr c h = evEffCall P call fr { c with callee := q } h := fun q h => by subst h; rfl
    cases hc : c.callee with
    | value f =>
      rw [e2 _ hc]
      have key : ∀ x : Option Value, (match x with
        | some v => fGo call h (evs fr c.args.toList) v
        | none => none) = x.bind fun
          | .func (.func g) first captured => (evs fr c.args.toList).bind fun vs => call g (first.toList ++ vs ++ captured.toList) h
          | _ => none := by
        intro x
        cases x with
        | none => rfl
        | some v =>
          simp only [Option.bind_some]
          unfold fGo
          cases evs fr c.args.toList with
          | none => cases v <;> first | rfl | (rename_i a _ _; cases a <;> rfl)
          | some vs => cases v <;> first | rfl | (rename_i a _ _; cases a <;> rfl)
      exact key (ev1 fr f)
    | _ => rfl
  | _ => rfl
def fOp (P : Program) (call : CallF) (fr : Fr) (o : Oper) (h : Hp) : Option (Value × Hp) := match kindOf P o with
  | .pure => fWith h (fPure P fr o)
  | .read => fWith h (fRead P fr o h)
  | .new => fMk h (evNew P fr o)
  | .eff => fEff P call fr o h
theorem fOp_eq (P : Program) (call : CallF) (fr : Fr) (o : Oper) (h : Hp) : fOp P call fr o h = evOp P call fr o h := by
  unfold fOp evOp
  cases kindOf P o with
  | pure => simp only [fPure_eq]; cases evPure P fr o <;> rfl
  | read => simp only [fRead_eq]; cases evReadOrPure P fr o h <;> rfl
  | new =>
    simp only
    cases evNew P fr o with
    | none => rfl
    | some q => obtain ⟨ob, mk⟩ := q; show some (mk h.next, hPush h ob) = _; rw [hPush_eq]; rfl
  | eff => simp only [fEff_eq]
def fOps (P : Program) (call : CallF) (ops : Array Oper) : List Oper → Fr → Hp → Option (Fr × Hp)
  | [], fr, h => some (fr, h)
  | o :: rest, fr, h => match fWanted ops fr o with
    | some true => match fOp P call fr o h with
      | some (v, h) => fOps P call ops rest (fPut fr o.dst v) h
      | none => none
    | some false => fOps P call ops rest (fPut fr o.dst undef) h
    | none => none
theorem fOps_eq (P : Program) (call : CallF) (ops : Array Oper) : ∀ (l : List Oper) (fr : Fr) (h : Hp), fOps P call ops l fr h = evOps P call ops l fr h
  | [], _, _ => rfl
  | o :: rest, fr, h => by
    unfold fOps evOps
    rw [fOp_eq, fWanted_eq]
    simp only [fPut_eq]
    cases evWanted ops fr o with
    | none => rfl
    | some w =>
      cases w with
      | true =>
        simp only
        cases evOp P call fr o h with
        | none => rfl
        | some q => obtain ⟨v, h1⟩ := q; exact fOps_eq P call ops rest _ _
      | false => exact fOps_eq P call ops rest _ _
def fTrcE (k : Kd) (s : Trc) (j : Nat) (dst : Option Tmp) : Option (Value × Hp) → Option Trc
  | none => none
  | some (v, h) => match k with
    | .eff => some { fr := fPut s.fr dst v, h := h, done := j :: s.done, bs := (j :: s.done, h) :: s.bs, rs := s.rs }
    | .read => some { s with fr := fPut s.fr dst v, h := h, rs := (j, s.fr, v) :: s.rs }
    | _ => some { s with fr := fPut s.fr dst v, h := h }
def fTrc1 (P : Program) (call : CallF) (ops : Array Oper) (s : Trc) (j : Nat) (o : Oper) : Option Trc := match fWanted ops s.fr o with
  | none => none
  | some false => bif kindOf P o == .eff then some { s with fr := fPut s.fr o.dst undef, done := j :: s.done, bs := (j :: s.done, s.h) :: s.bs } else some { s with fr := fPut s.fr o.dst undef }
  | some true => fTrcE (kindOf P o) s j o.dst (fOp P call s.fr o s.h)
def fTrcStep (P : Program) (call : CallF) (ops : Array Oper) (s : Trc) (j : Nat) : Option Trc := match ops[j]? with
  | none => none
  | some o => fTrc1 P call ops s j o
theorem fTrcStep_eq (P : Program) (call : CallF) (ops : Array Oper) (s : Trc) (j : Nat) : fTrcStep P call ops s j = trcStep P call ops s j := by
  unfold fTrcStep trcStep
  cases ops[j]? with
  | none => rfl
  | some o =>
    simp only
    unfold fTrc1
    rw [fOp_eq, fWanted_eq]
    simp only [fPut_eq]
    cases evWanted ops s.fr o with
    | none => rfl
    | some w =>
      cases w with
      | false => rfl
      | true =>
        simp only
        cases evOp P call s.fr o s.h with
        | none => rfl
        | some q => obtain ⟨v, h⟩ := q; unfold fTrcE; simp only [fPut_eq]; cases kindOf P o <;> rfl
def fTrc (P : Program) (call : CallF) (ops : Array Oper) : List Nat → Trc → Option Trc
  | [], s => some s
  | j :: l, s => match fTrcStep P call ops s j with
    | some s => fTrc P call ops l s
    | none => none
theorem fTrc_eq (P : Program) (call : CallF) (ops : Array Oper) : ∀ (l : List Nat) (s : Trc), fTrc P call ops l s = trc P call ops l s
  | [], _ => rfl
  | j :: l, s => by
    unfold fTrc trc
    rw [fTrcStep_eq]
    cases trcStep P call ops s j with
    | none => rfl
    | some s => exact fTrc_eq P call ops l s
def fDraw (P : Program) (call : CallF) (_ : Nat) (ops : Array Oper) (fr : Fr) (h : Hp) : Option (Fr × Hp) :=
  match fTrc P call ops (sched P ops) { fr := fr, h := h, done := [], bs := [([], h)], rs := [] } with
  | some s => bif readsOk P ops ((List.range ops.size).filter fun j => kindAt P ops j == .eff) s then some (s.fr, s.h) else none
  | none => none
theorem fDraw_eq (P : Program) (call : CallF) (id : Nat) (ops : Array Oper) (fr : Fr) (h : Hp) : fDraw P call id ops fr h = evDraw P call id ops fr h := by
  unfold fDraw evDraw; rw [fTrc_eq]; rfl
def fNorm : Option (Fr × Hp) → Res
  | some (fr, h) => some (.norm, fr, h)
  | none => none
def fThen (k : Fr → Hp → Res) : Res → Res
  | some (.norm, fr, h) => k fr h
  | r => r
def fCond (a b : Fr → Hp → Res) (fr : Fr) (h : Hp) : Option Value → Res
  | some (.bool true) => a fr h
  | some (.bool false) => b fr h
  | _ => none
def fBlk (id : Nat) : Res → Res
  | some (.exit j, fr, h) => bif Nat.beq j id then some (.norm, fr, h) else some (.exit j, fr, h)
  | r => r
def fCode (P : Program) (call : CallF) (fuel : Nat) (c : Code) : Fr → Hp → Res :=
  Code.rec (motive := fun _ => Fr → Hp → Res)
    (skip := fun fr h => some (.norm, fr, h))
    (region := fun id ops draw fr h => fNorm (bif draw then fDraw P call id ops fr h else fOps P call ops ops.toList fr h))
    (seq := fun _ _ a b fr h => fThen b (a fr h))
    (cond := fun c _ _ a b fr h => fCond a b fr h (fEv fr c))
    (block := fun id _ a fr h => fBlk id (a fr h))
    (loop := fun _ a fr h => iter a fuel fr h)
    (rangeFunc := fun _ _ _ _ _ _ _ _ => none)
    (exit := fun id fr h => some (.exit id, fr, h))
    (scope := fun _ _ _ _ => none)
    (label := fun _ _ _ => none)
    (goto := fun _ _ _ => none)
    (ret := fun fr h => some (.ret, fr, h))
    (refuse := fun _ _ _ => none) c
theorem fCode_eq (P : Program) (call : CallF) (fuel : Nat) : ∀ (c : Code), fCode P call fuel c = evCode P call (evDraw P call) fuel c
  | .skip => rfl
  | .region id ops draw => by
    funext fr h
    show fNorm (bif draw then fDraw P call id ops fr h else fOps P call ops ops.toList fr h) = evCode P call (evDraw P call) fuel (.region id ops draw) fr h
    rw [fDraw_eq, fOps_eq]
    unfold evCode fNorm
    cases (bif draw then evDraw P call id ops fr h else evOps P call ops ops.toList fr h) <;> rfl
  | .seq a b => by
    funext fr h
    show fThen (fCode P call fuel b) (fCode P call fuel a fr h) = _
    rw [fCode_eq P call fuel a, fCode_eq P call fuel b]
    conv => rhs; unfold evCode
    unfold fThen
    split
    · rename_i h1; rw [h1]
    · rename_i h1
      split
      · rename_i h2; exact absurd h2 (h1 _ _)
      · rfl
  | .cond c a b => by
    funext fr h
    show fCond (fCode P call fuel a) (fCode P call fuel b) fr h (fEv fr c) = _
    rw [fEv_eq, fCode_eq P call fuel a, fCode_eq P call fuel b]
    conv => rhs; unfold evCode
    rfl
  | .block id a => by
    funext fr h
    show fBlk id (fCode P call fuel a fr h) = _
    rw [fCode_eq P call fuel a]
    conv => rhs; unfold evCode
    rfl
  | .loop a => by
    funext fr h
    show iter (fCode P call fuel a) fuel fr h = _
    rw [fCode_eq P call fuel a]
    conv => rhs; unfold evCode
  | .rangeFunc .. => rfl
  | .exit _ => rfl
  | .scope _ => rfl
  | .label _ => rfl
  | .goto _ => rfl
  | .ret => rfl
  | .refuse _ => rfl
def fFin (P : Program) (rs : List ResultVar) : Res → Option (Value × Hp)
  | some (.norm, fr, h) | some (.ret, fr, h) => (evResults P fr h rs).map fun vs => (tupled vs, h)
  | _ => none
def fBody (P : Program) (call : CallF) (fuel : Nat) (args : List Value) (h : Hp) (rs : Array ResultVar) : Option Code → Option (Value × Hp)
  | some c => fFin P rs.toList (fCode P call fuel c (Tr.ofList args 0 .e) h)
  | none => none
def fEnter (P : Program) (call : CallF) (fuel : Nat) (args : List Value) (h : Hp) : Option Func → Option (Value × Hp)
  | some fn => fBody P call fuel args h fn.results fn.body
  | none => none
def fStart (C : Ctx) (call : CallF) (fuel : Nat) (f : FuncId) (args : List Value) (h : Hp) : Option Sum → Option (Value × Hp)
  | some s => s args h
  | none => bif !(C.mask.testBit f) then none else fEnter C.P call fuel args h (C.P.funcs[f]?)
def fCall (C : Ctx) (n : Nat) : CallF :=
  Nat.rec (motive := fun _ => CallF) (fun _ _ _ => none) (fun n call f args h => fStart C call n f args h (C.S f)) n
theorem fCall_eq (C : Ctx) : ∀ n, fCall C n = evCall C n
  | 0 => rfl
  | n + 1 => by
    funext f args h
    show fStart C (fCall C n) n f args h (C.S f) = _
    rw [fCall_eq C n]
    conv => rhs; unfold evCall
    unfold fStart
    cases C.S f with
    | some s => rfl
    | none =>
      simp only
      cases C.mask.testBit f with
      | false => rfl
      | true =>
        simp only [Bool.not_true, cond_false]
        unfold fEnter
        cases C.P.funcs[f]? with
        | none => rfl
        | some fn =>
          simp only
          unfold fBody
          cases fn.body with
          | none => rfl
          | some c => simp only [fCode_eq]; rfl
end
end Go.Ev
namespace Go.Proofs.YtlfldfkfojehiaaGreatDoor
open Go Go.Ev Go.RowKit
set_option linter.unusedSimpArgs false
set_option linter.unusedVariables false
set_option maxRecDepth 100000
def sumTrue : Sum := fun _ h => some (.bool true, h)
theorem sumTrue_ok {I : Inv} {f : FuncId} (hI : ∀ m h w, I m h w → ∃ mx, w.cell? ⟨0, 0, none⟩ = some (.int .i64 mx)) {n : Nat} (e : (evCall ctx n f [] h0).map (·.1) = some (.bool true)) : ∀ h v h', sumTrue [] h = some (v, h') → ∀ m w args', Rep ctx.P m h w → I m h w → VL m [] args' →
    Calls ctx.P f args'.toArray w fun e w' => ∃ v' m', e = .returned v' ∧ Rep ctx.P m' h' w' ∧ Step m h w m' h' w' ∧ VRel m' v v' := by
  intro h v h' hs m w args' r hi hv
  cases hv
  cases hs
  have hC : CtxOK ctx (From m0 h0 w) (regOk ctx.P) := ctx_ok fun _ _ _ i => (hI m h w hi).imp fun _ e => i.cell0 e
  refine (closed_bool hC ctx_mix e).mono fun e w' he => ?_
  obtain ⟨rfl, hb⟩ := he
  obtain ⟨h1, h2⟩ := r.below hb
  exact ⟨_, m, rfl, h1, h2, .bool _⟩
theorem awake_val : (awakes.all fun f => match ((fCall ctx 300 f [] h0).map (·.1) : Option Value) with
  | some (.bool b) => b
  | _ => false) = true := by kernel_rfl
theorem awake_good : (awakes.all fun f => match Tryz.prog.funcs[f]? with
  | some fn => fn.body.isSome && !(fn.name == "runtime.NumGoroutine")
  | none => false) = true := by kernel_rfl
theorem kon_ok {I : Inv} (hI : ∀ m h w, I m h w → ∃ mx, w.cell? ⟨0, 0, none⟩ = some (.int .i64 mx)) : CtxOK kon I (regOk kon.P) := by
  have base := ctx_ok hI
  refine ⟨base.1, fun f s hs args h v h' e => ?_⟩
  simp only [kon] at hs
  cases hf : awakes.contains f with
  | false => rw [hf] at hs; exact base.2 f s hs args h v h' e
  | true =>
    rw [hf] at hs
    simp only [cond_true, Option.some.injEq] at hs
    subst hs
    have hm : f ∈ awakes := by simpa using hf
    have h1 := List.all_eq_true.1 awake_val f hm
    rw [fCall_eq] at h1
    have h2 := List.all_eq_true.1 awake_good f hm
    unfold sumAwake at e
    split at e
    · refine ⟨?_, fun m w args' r hi hv => ?_⟩
      · split at h2
        · rename_i fn hfn
          simp only [Bool.and_eq_true, Bool.not_eq_true'] at h2
          exact ⟨fn, hfn, h2.2, by have := h2.1; cases hb : fn.body <;> simp_all⟩
        · cases h2
      · refine sumTrue_ok hI (n := 300) ?_ h v h' (by simpa [sumTrue] using e) m w args' r hi hv
        split at h1
        · rename_i b hb
          rw [hb, h1]
        · cases h1
    · cases e
theorem kon_mix : kon.P.follows .mixedOrders = true := ctx_mix
end Go.Proofs.YtlfldfkfojehiaaGreatDoor
namespace Go.Proofs.YtlfldfkfojehiaaGreatDoor
open Go Go.Ev Go.RowKit
set_option linter.unusedSimpArgs false
set_option linter.unusedVariables false
set_option maxRecDepth 1000000
theorem kon_from0 {w0 : World} (h : w0.ShapedOpen Tryz.prog) : CtxOK kon (From m0 h0 w0) (regOk kon.P) :=
  kon_ok fun _ _ _ i => (maxLen h).imp fun _ e => i.cell0 e
end Go.Proofs.YtlfldfkfojehiaaGreatDoor
