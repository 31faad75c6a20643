/- Texts joined: what the claim needs of them. No condition. -/
import Derived.Shelf.Strings.Builder1
import Derived.Shelf.Strings.Builder2
import Derived.Shelf.Strings.OnBuilder
import Derived.Shelf.Small.Bits
import Derived.Shelf.Small.Strs
import Derived.Shelf.Strconv.Itoa0
import Derived.Shelf.Strings.Search1
import Derived.Shelf.Strings.Search2
import Derived.Shelf.Strings.Search3
import Derived.Shelf.Strings.Count
import Derived.Shelf.LaysM
import Derived.Shelf.Strings.Shaped
import Derived.Shelf.Strings.Split
import Derived.Shelf.Strings.SplitShaped
import Derived.Shelf.Unicode.Decode
import Derived.Shelf.Strings.RuneCount
import Derived.Shelf.Strings.Explode
import Derived.Shelf.Unicode.DecodeSlow
import Derived.Shelf.Unicode.DecodeAny
import Derived.Ground.SlsfProg
import Derived.Shelf.SlSortCmp.Insertion
import Derived.Shelf.SlSortCmp.SiftDown1
import Derived.Shelf.SlSortCmp.HeapSort1
import Derived.Shelf.SlSortCmp.Insertion1
import Derived.Shelf.SlSortCmp.Median1
import Derived.Shelf.SlSortCmp.Pivot1
import Derived.Shelf.SlSortCmp.ReverseRange1
import Derived.Shelf.SlSortCmp.PartialInsertion1
import Derived.Shelf.SlSortCmp.PartitionEqual1
import Derived.Shelf.SlSortCmp.Partition1
import Derived.Shelf.SlSortCmp.Pdq1
import Derived.Shelf.SlSortCmp.Whole1
import Derived.Test.YtncmgiddcefpcaaDoorProg
import Derived.Test.YtncmgiddcefpcaaDoorBin8
import Derived.Shelf.SlSortCmp.NoneTotal
import Derived.Test.YtncmgiddcefpcaaDoorBin5
import Derived.Test.YtncmgiddcefpcaaDoorEvM3
import Derived.Test.YtncmgiddcefpcaaDoorBin7
import Derived.Test.YtncmgiddcefpcaaDoorBin4
import Derived.Test.YtncmgiddcefpcaaDoorBin6
namespace Go.Proofs
open Go.Shelf
def Tryd.lays156_ren : Go.Shelf.Ren := ⟨fun | 156 => 78 | 165 => 111 | 166 => 112 | 169 => 113 | 240 => 125 | 241 => 126 | 276 => 142 | 277 => 143 | n => n, fun | 31 => 23 | 9 => 9 | 3 => 3 | 4 => 4 | 0 => 0 | 20 => 20 | 72 => 160 | 76 => 164 | 70 => 158 | 37 => 35 | 75 => 163 | 127 => 176 | 164 => 192 | 5 => 5 | 80 => 166 | n => n, fun | n => n⟩
theorem Tryd.lays156 : Go.Proofs.Lays.n156 Tryd.prog Tryd.lays156_ren := {
  mixed := by kernel_rfl
  f156 := Tryd.func78.trans (congrArg some (by kernel_rfl))
  f165 := Tryd.func111.trans (congrArg some (by kernel_rfl))
  f166 := Tryd.func112.trans (congrArg some (by kernel_rfl))
  f169 := Tryd.func113.trans (congrArg some (by kernel_rfl))
  f240 := Tryd.func125.trans (congrArg some (by kernel_rfl))
  f241 := Tryd.func126.trans (congrArg some (by kernel_rfl))
  f276 := Tryd.func142.trans (congrArg some (by kernel_rfl))
  f277 := Tryd.func143.trans (congrArg some (by kernel_rfl))
  t0 := Tryd.underlying0
  a0 := Tryd.isAgg0
  z0 := Tryd.sizeOf0
  v0 := Tryd.zeroValue0
  t3 := Tryd.underlying3
  a3 := Tryd.isAgg3
  z3 := Tryd.sizeOf3
  v3 := Tryd.zeroValue3
  t4 := Tryd.underlying4
  a4 := Tryd.isAgg4
  z4 := Tryd.sizeOf4
  v4 := Tryd.zeroValue4
  t9 := Tryd.underlying9
  a9 := Tryd.isAgg9
  z9 := Tryd.sizeOf9
  v9 := Tryd.zeroValue9
  t20 := Tryd.underlying20
  a20 := Tryd.isAgg20
  z20 := Tryd.sizeOf20
  v20 := Tryd.zeroValue20
  t31 := Tryd.underlying23
  a31 := Tryd.isAgg23
  z31 := Tryd.sizeOf23
  v31 := Tryd.zeroValue23
  t37 := Tryd.underlying35
  a37 := Tryd.isAgg35
  z37 := Tryd.sizeOf35
  v37 := Tryd.zeroValue35
  t70 := Tryd.underlying158
  a70 := Tryd.isAgg158
  z70 := Tryd.sizeOf158
  v70 := Tryd.zeroValue158
  t72 := Tryd.underlying160
  a72 := Tryd.isAgg160
  z72 := Tryd.sizeOf160
  v72 := Tryd.zeroValue160
  t75 := Tryd.underlying163
  a75 := Tryd.isAgg163
  z75 := Tryd.sizeOf163
  v75 := Tryd.zeroValue163
  t76 := Tryd.underlying164
  a76 := Tryd.isAgg164
  z76 := Tryd.sizeOf164
  v76 := Tryd.zeroValue164
  t127 := Tryd.underlying176
  a127 := Tryd.isAgg176
  z127 := Tryd.sizeOf176
  v127 := Tryd.zeroValue176
  t164 := Tryd.underlying192
  a164 := Tryd.isAgg192
  z164 := Tryd.sizeOf192
  v164 := Tryd.zeroValue192 }
theorem Tryd.Builder_Extra_156 : Builder.Extra Tryd.prog Tryd.lays156_ren := {
  sizeBuilder := by kernel_rfl
  liesBuilder := by kernel_rfl
  t5 := Tryd.underlying5
  a5 := Tryd.isAgg5
  z5 := Tryd.sizeOf5
  v5 := Tryd.zeroValue5
  infoByte := by kernel_rfl
  cellsByte := by kernel_rfl
  sizeByte := by kernel_rfl
  neB5 := by decide }
open Go.RowKit in
theorem Tryd.strings_Join_none (a : Option Addr) (c : Nat) (sep : ByteArray) (w : World) :
    Calls Tryd.prog 78 #[.slice a 0 c, .string sep] w fun e w' => e = .returned (.string ⟨#[]⟩) ∧ w' = w := Any.strings_Join_none Tryd.lays156 Tryd.Builder_Extra_156 a c sep w
open Go.RowKit in
theorem Tryd.strings_Join (bk o c : Nat) (xs : List ByteArray) (sep : ByteArray) (w : World) (hcells : ∀ (j : Nat) x, xs[j]? = some x → w.cell? ⟨bk, o + j, none⟩ = some (.string x)) (hbk : bk < w.heap.size) (hN : xs.length ≤ 140737488355328) (hcap : xs.length ≤ c) (hlen : (Lib.join (xs.map (·.data.toList)) sep.data.toList).length ≤ 140737488355328) :
    Calls Tryd.prog 78 #[.slice (some ⟨bk, o, none⟩) xs.length c, .string sep] w fun e w' => e = .returned (.string ⟨(Lib.join (xs.map (·.data.toList)) sep.data.toList).toArray⟩) ∧ Below w.heap.size w w' := Any.strings_Join Tryd.lays156 Tryd.Builder_Extra_156 bk o c xs sep w hcells hbk hN hcap hlen
def Tryd.lays213_ren : Go.Shelf.Ren := ⟨fun | 213 => 144 | 265 => 155 | n => n, fun | 9 => 9 | 3 => 3 | n => n, fun | n => n⟩
def Tryd.lays106_ren : Go.Shelf.Ren := ⟨fun | 106 => 127 | 213 => 144 | 265 => 155 | n => n, fun | 9 => 9 | 3 => 3 | n => n, fun | n => n⟩
theorem Tryd.lays106 : Go.Proofs.Lays.n106 Tryd.prog Tryd.lays106_ren := {
  mixed := by kernel_rfl
  f106 := Tryd.func127.trans (congrArg some (by kernel_rfl))
  f213 := Tryd.func144.trans (congrArg some (by kernel_rfl))
  f265 := Tryd.func155.trans (congrArg some (by kernel_rfl))
  t3 := Tryd.underlying3
  a3 := Tryd.isAgg3
  z3 := Tryd.sizeOf3
  v3 := Tryd.zeroValue3
  t9 := Tryd.underlying9
  a9 := Tryd.isAgg9
  z9 := Tryd.sizeOf9
  v9 := Tryd.zeroValue9 }
open Go.RowKit in
theorem Tryd.strings_Compare (a b : ByteArray) (w : World) :
    Calls Tryd.prog 127 #[.string a, .string b] w fun e w' => e = .returned (.int .i64 (Lib.compareBytes a.data.toList b.data.toList)) ∧ w' = w := Any.strings_Compare Tryd.lays106 a b w
def Tryd.lays221_ren : Go.Shelf.Ren := ⟨fun | 221 => 110 | 268 => 122 | 138 => 123 | 143 => 124 | 195 => 138 | 197 => 139 | 218 => 140 | 219 => 141 | 260 => 150 | 217 => 151 | 225 => 152 | 224 => 153 | 267 => 154 | 266 => 157 | 314 => 158 | n => n, fun | 9 => 9 | 3 => 3 | 31 => 23 | 4 => 4 | 0 => 0 | 105 => 189 | 21 => 21 | 5 => 5 | 46 => 174 | 119 => 203 | 139 => 206 | 138 => 205 | 146 => 207 | 51 => 185 | n => n, fun | 1 => 0 | 3 => 1 | 4 => 2 | n => n⟩
def Tryd.lays146_ren : Go.Shelf.Ren := ⟨fun | 146 => 75 | 221 => 110 | 268 => 122 | 138 => 123 | 143 => 124 | 195 => 138 | 197 => 139 | 218 => 140 | 219 => 141 | 260 => 150 | 217 => 151 | 225 => 152 | 224 => 153 | 267 => 154 | 266 => 157 | 314 => 158 | n => n, fun | 9 => 9 | 31 => 23 | 3 => 3 | 4 => 4 | 0 => 0 | 105 => 189 | 21 => 21 | 5 => 5 | 46 => 174 | 119 => 203 | 139 => 206 | 138 => 205 | 146 => 207 | 51 => 185 | n => n, fun | 1 => 0 | 3 => 1 | 4 => 2 | n => n⟩
theorem Tryd.lays146 : Go.Proofs.Lays.n146 Tryd.prog Tryd.lays146_ren := {
  mixed := by kernel_rfl
  f138 := Tryd.func123.trans (congrArg some (by kernel_rfl))
  f143 := Tryd.func124.trans (congrArg some (by kernel_rfl))
  f146 := Tryd.func75.trans (congrArg some (by kernel_rfl))
  f195 := Tryd.func138.trans (congrArg some (by kernel_rfl))
  f197 := Tryd.func139.trans (congrArg some (by kernel_rfl))
  f217 := Tryd.func151.trans (congrArg some (by kernel_rfl))
  f218 := Tryd.func140.trans (congrArg some (by kernel_rfl))
  f219 := Tryd.func141.trans (congrArg some (by kernel_rfl))
  f221 := Tryd.func110.trans (congrArg some (by kernel_rfl))
  f224 := Tryd.func153.trans (congrArg some (by kernel_rfl))
  f225 := Tryd.func152.trans (congrArg some (by kernel_rfl))
  f260 := Tryd.func150.trans (congrArg some (by kernel_rfl))
  f266 := Tryd.func157.trans (congrArg some (by kernel_rfl))
  f267 := Tryd.func154.trans (congrArg some (by kernel_rfl))
  f268 := Tryd.func122.trans (congrArg some (by kernel_rfl))
  f314 := Tryd.func158.trans (congrArg some (by kernel_rfl))
  t0 := Tryd.underlying0
  a0 := Tryd.isAgg0
  z0 := Tryd.sizeOf0
  v0 := Tryd.zeroValue0
  t3 := Tryd.underlying3
  a3 := Tryd.isAgg3
  z3 := Tryd.sizeOf3
  v3 := Tryd.zeroValue3
  t4 := Tryd.underlying4
  a4 := Tryd.isAgg4
  z4 := Tryd.sizeOf4
  v4 := Tryd.zeroValue4
  t5 := Tryd.underlying5
  a5 := Tryd.isAgg5
  z5 := Tryd.sizeOf5
  v5 := Tryd.zeroValue5
  t9 := Tryd.underlying9
  a9 := Tryd.isAgg9
  z9 := Tryd.sizeOf9
  v9 := Tryd.zeroValue9
  t21 := Tryd.underlying21
  a21 := Tryd.isAgg21
  z21 := Tryd.sizeOf21
  v21 := Tryd.zeroValue21
  t31 := Tryd.underlying23
  a31 := Tryd.isAgg23
  z31 := Tryd.sizeOf23
  v31 := Tryd.zeroValue23
  t46 := Tryd.underlying174
  a46 := Tryd.isAgg174
  z46 := Tryd.sizeOf174
  v46 := Tryd.zeroValue174
  t51 := Tryd.underlying185
  a51 := Tryd.isAgg185
  z51 := Tryd.sizeOf185
  v51 := Tryd.zeroValue185
  t105 := Tryd.underlying189
  a105 := Tryd.isAgg189
  z105 := Tryd.sizeOf189
  v105 := Tryd.zeroValue189
  t119 := Tryd.underlying203
  a119 := Tryd.isAgg203
  z119 := Tryd.sizeOf203
  t138 := Tryd.underlying205
  a138 := Tryd.isAgg205
  z138 := Tryd.sizeOf205
  v138 := Tryd.zeroValue205
  t139 := Tryd.underlying206
  a139 := Tryd.isAgg206
  z139 := Tryd.sizeOf206
  v139 := Tryd.zeroValue206
  t146 := Tryd.underlying207
  a146 := Tryd.isAgg207
  z146 := Tryd.sizeOf207
  v146 := Tryd.zeroValue207
  g1 := by kernel_rfl
  g3 := by kernel_rfl
  g4 := by kernel_rfl }
open Go.RowKit Go.Lib in
theorem Tryd.strings_Split (s sep : ByteArray) (m : Int) (w : World) (hs : s.size < 4294967281) (hm : w.cell? ⟨0, 0, none⟩ = some (.int .i64 m)) (h1 : 1 ≤ sep.size) :
    Calls Tryd.prog 75 #[.string s, .string sep] w fun e w' =>
      e = .returned (.slice (some ⟨w.heap.size, 0, none⟩) (Lib.countB s sep + 1) (Lib.countB s sep + 1)) ∧ w' = w.alloc (.cells ((Lib.splitB sep 0 (Lib.countB s sep) s).map Value.string).toArray 9) := Any.strings_Split Tryd.lays146 (by kernel_rfl) s sep m w hs hm h1
def Tryd.laysSlF6_f105_ren : Go.Shelf.Ren := ⟨fun | 6 => 105 | 15 => 120 | 14 => 119 | 28 => 136 | 29 => 137 | 20 => 128 | 21 => 129 | 22 => 130 | 23 => 131 | 24 => 132 | 25 => 133 | 26 => 134 | 27 => 135 | 46 => 145 | 47 => 146 | 48 => 147 | 49 => 148 | 50 => 149 | 57 => 156 | n => n, fun | 22 => 23 | 24 => 9 | 25 => 155 | 3 => 3 | 39 => 174 | 0 => 0 | 53 => 185 | 55 => 187 | 4 => 4 | 46 => 179 | 45 => 178 | 50 => 68 | 5 => 5 | 9 => 9 | 66 => 195 | 70 => 199 | 76 => 201 | 77 => 92 | n => n, fun | n => n⟩
theorem Tryd.laysSlF6_f105 : Go.Proofs.SlLaysF.n6 Tryd.prog Tryd.laysSlF6_f105_ren := {
  mixed := by kernel_rfl
  f6 := ⟨Tryd.f105.name, by decide, Tryd.func105.trans (congrArg some (by kernel_rfl))⟩
  f14 := ⟨Tryd.f119.name, by decide, Tryd.func119.trans (congrArg some (by kernel_rfl))⟩
  f15 := Tryd.func120.trans (congrArg some (by kernel_rfl))
  f20 := ⟨Tryd.f128.name, by decide, Tryd.func128.trans (congrArg some (by kernel_rfl))⟩
  f21 := ⟨Tryd.f129.name, by decide, Tryd.func129.trans (congrArg some (by kernel_rfl))⟩
  f22 := ⟨Tryd.f130.name, by decide, Tryd.func130.trans (congrArg some (by kernel_rfl))⟩
  f23 := ⟨Tryd.f131.name, by decide, Tryd.func131.trans (congrArg some (by kernel_rfl))⟩
  f24 := ⟨Tryd.f132.name, by decide, Tryd.func132.trans (congrArg some (by kernel_rfl))⟩
  f25 := ⟨Tryd.f133.name, by decide, Tryd.func133.trans (congrArg some (by kernel_rfl))⟩
  f26 := ⟨Tryd.f134.name, by decide, Tryd.func134.trans (congrArg some (by kernel_rfl))⟩
  f27 := ⟨Tryd.f135.name, by decide, Tryd.func135.trans (congrArg some (by kernel_rfl))⟩
  f28 := Tryd.func136.trans (congrArg some (by kernel_rfl))
  f29 := Tryd.func137.trans (congrArg some (by kernel_rfl))
  f46 := ⟨Tryd.f145.name, by decide, Tryd.func145.trans (congrArg some (by kernel_rfl))⟩
  f47 := Tryd.func146.trans (congrArg some (by kernel_rfl))
  f48 := Tryd.func147.trans (congrArg some (by kernel_rfl))
  f49 := ⟨Tryd.f148.name, by decide, Tryd.func148.trans (congrArg some (by kernel_rfl))⟩
  f50 := ⟨Tryd.f149.name, by decide, Tryd.func149.trans (congrArg some (by kernel_rfl))⟩
  f57 := ⟨Tryd.f156.name, by decide, Tryd.func156.trans (congrArg some (by kernel_rfl))⟩
  t0 := Tryd.underlying0
  a0 := Tryd.isAgg0
  z0 := Tryd.sizeOf0
  v0 := Tryd.zeroValue0
  t3 := Tryd.underlying3
  a3 := Tryd.isAgg3
  z3 := Tryd.sizeOf3
  v3 := Tryd.zeroValue3
  t4 := Tryd.underlying4
  a4 := Tryd.isAgg4
  z4 := Tryd.sizeOf4
  v4 := Tryd.zeroValue4
  t5 := Tryd.underlying5
  a5 := Tryd.isAgg5
  z5 := Tryd.sizeOf5
  v5 := Tryd.zeroValue5
  t9 := Tryd.underlying9
  a9 := Tryd.isAgg9
  z9 := Tryd.sizeOf9
  v9 := Tryd.zeroValue9
  t22 := Tryd.underlying23
  a22 := Tryd.isAgg23
  z22 := Tryd.sizeOf23
  v22 := Tryd.zeroValue23
  a24 := Tryd.isAgg9
  z24 := Tryd.sizeOf9
  t25 := Tryd.underlying155
  a25 := Tryd.isAgg155
  z25 := Tryd.sizeOf155
  v25 := Tryd.zeroValue155
  t39 := Tryd.underlying174
  a39 := Tryd.isAgg174
  z39 := Tryd.sizeOf174
  v39 := Tryd.zeroValue174
  t45 := Tryd.underlying178
  a45 := Tryd.isAgg178
  z45 := Tryd.sizeOf178
  v45 := Tryd.zeroValue178
  t46 := Tryd.underlying179
  a46 := Tryd.isAgg179
  z46 := Tryd.sizeOf179
  v46 := Tryd.zeroValue179
  t50 := Tryd.underlying68
  a50 := Tryd.isAgg68
  z50 := Tryd.sizeOf68
  v50 := Tryd.zeroValue68
  t53 := Tryd.underlying185
  a53 := Tryd.isAgg185
  z53 := Tryd.sizeOf185
  v53 := Tryd.zeroValue185
  t55 := Tryd.underlying187
  a55 := Tryd.isAgg187
  z55 := Tryd.sizeOf187
  v55 := Tryd.zeroValue187
  t66 := Tryd.underlying195
  a66 := Tryd.isAgg195
  z66 := Tryd.sizeOf195
  v66 := Tryd.zeroValue195
  t70 := Tryd.underlying199
  a70 := Tryd.isAgg199
  z70 := Tryd.sizeOf199
  v70 := Tryd.zeroValue199
  t76 := Tryd.underlying201
  a76 := Tryd.isAgg201
  z76 := Tryd.sizeOf201
  v76 := Tryd.zeroValue201
  t77 := Tryd.underlying92
  a77 := Tryd.isAgg92
  z77 := Tryd.sizeOf92
  v77 := Tryd.zeroValue92 }
open Go.RowKit Go.Lib Go.Sort in
theorem Tryd.slices_SortFunc {α : Type} [Inhabited α] (enc : α → Value) (h1 : OneCell enc) (cf : α → α → Int) (hO : SWO (ltOf cf)) (g : Nat) (cb : Array Value) (blk off cap : Nat) (d : Array α) (w : World) (eg : ∀ args w, (callFunc g args).run Tryd.prog w = .ok (.enter g args) w) (hcmp : CmpLays1 Tryd.prog g cb enc cf blk off d.size w) (hH : Holds enc w blk off d) (hblk : blk < w.heap.size) (hsz : d.size < 4611686018427387904) :
    Calls Tryd.prog 105 #[.slice (some ⟨blk, off, none⟩) d.size cap, .func (.func g) #[] cb] w fun e w' =>
      e = .returned (.tuple #[]) ∧ ∃ d' n os, PermIn 0 d.size d d' ∧ SortedIn (ltOf cf) 0 d.size d' ∧ w' = sortWorld enc w blk off n d' os := Any.slices_SortFunc Tryd.laysSlF6_f105 enc h1 cf hO g cb blk off cap d w eg hcmp hH hblk hsz
end Go.Proofs
namespace Go.Proofs.YtncmgiddcefpcaaDoor
open Go Go.Ev Go.RowKit Go.Sort Go.Proofs Go.Shelf Go.Lib
set_option linter.unusedSimpArgs false
set_option linter.unusedVariables false
set_option maxRecDepth 100000
theorem nil_walk (d : Int) (w : World) : Calls Tryd.prog 68 #[.pointer none, .int .i64 d] w fun e w' => e = .returned (.slice none 0 0) ∧ Below w.heap.size w w' := by
  go_enter Tryd.func68, Tryd.ntmps68
  go_wp2
  go_ret
  exact ⟨rfl, Below.refl _ _⟩
theorem swo_bytes : SWO (ltOf Lib.compareBytes) := by
  have h : ∀ x y, ltOf Lib.compareBytes x y = decide (x < y) := fun x y => by
    unfold ltOf
    rw [Bool.eq_iff_iff]
    have := Go.Con.cmp_lt x y
    simp [this]
  refine { irrefl := fun x => ?_, trans := fun x y z h1 h2 => ?_, ntrans := fun x y z h1 h2 => ?_ }
  · rw [h]; simp [List.lt_irrefl]
  · rw [h] at *
    simp only [decide_eq_true_eq] at *
    exact List.lt_trans h1 h2
  · rw [h] at *
    simp only [decide_eq_false_iff_not, List.not_lt] at *
    exact List.le_trans h2 h1
theorem sort_ok : SortOK := by
  intro blk cap ss w cur hb ht hc hl
  have eg : ∀ args w, (callFunc 106 args).run Tryd.prog w = .ok (.enter 106 args) w := enters_of Tryd.func106 (by kernel_rfl) rfl
  have hcmp : CmpReads Tryd.prog 106 #[] encStr Lib.compareBytes blk 0 ss.toArray.size w := fun m os dk _ x y => (clos_walk _ _ _).mono fun e w' he => ⟨he.1, 0, he.2⟩
  have hcon := Tryd.slices_SortFunc encStr (fun _ => rfl) Lib.compareBytes swo_bytes 106 #[] blk 0 cap ss.toArray w eg hcmp.lays (holds_of_block hb ht) (Array.getElem?_eq_some_iff.1 hb).1 (by simpa using hl)
  have e1 : ss.toArray.size = ss.length := by simp
  rw [e1] at hcon
  refine hcon.mono fun e w' he => ?_
  obtain ⟨rfl, d', n, os, hp, hs, rfl⟩ := he
  refine ⟨rfl, n, os, ?_⟩
  have : d' = (sortB ss).toArray := by
    obtain ⟨hz, _, hpm⟩ := hp
    rw [e1] at hz
    have ed : d'.extract 0 ss.length = d' := by rw [← hz]; simp
    have es : ss.toArray.extract 0 ss.length = ss.toArray := by simp
    rw [ed, es] at hpm
    have hsorted : d'.toList.Pairwise fun a b => ¬ b < a := by
      rw [List.pairwise_iff_getElem]
      intro i j hi hj hij
      rw [Array.length_toList] at hi hj
      have := hs i j (Nat.zero_le _) hij (by omega)
      rw [getElem!_pos d' j hj, getElem!_pos d' i hi] at this
      unfold ltOf at this
      intro hlt
      have h2 := (Go.Con.cmp_lt d'[j] d'[i]).2 hlt
      simp [h2] at this
    have := sortB_uniq hpm hsorted
    rw [← this]
  rw [this]; rfl
theorem sort_nil : SortNil := fun w => (AnyF.slices_SortFunc_none { Tryd.laysSlF6_f105 with } none 0 _ w).mono fun e w' he => ⟨he.1, by rw [he.2]; exact Below.refl _ _⟩
theorem names_sum {I : Inv} : SumOK Tryd.prog I 68 (sumNames 9) := sumNames_ok (by kernel_rfl) nil_walk (names_walk sort_ok sort_nil)
end Go.Proofs.YtncmgiddcefpcaaDoor
namespace Go.Proofs.YtncmgiddcefpcaaDoor
open Go Go.Ev Go.RowKit
set_option linter.unusedSimpArgs false
set_option linter.unusedVariables false
set_option maxRecDepth 100000
theorem mask_all : ((List.range 120).all fun f => !(mask.testBit f) || okF Tryd.prog f) = true := by kernel_rfl
theorem ctx_mix : ctx.P.follows .mixedOrders = true := by kernel_rfl
theorem good1 : GoodF Tryd.prog 75 := ⟨Tryd.f75, Tryd.func75, by kernel_rfl, by kernel_rfl⟩
theorem good2 : GoodF Tryd.prog 78 := ⟨Tryd.f78, Tryd.func78, by kernel_rfl, by kernel_rfl⟩
theorem good3 : GoodF Tryd.prog 127 := ⟨Tryd.f127, Tryd.func127, by kernel_rfl, by kernel_rfl⟩
theorem good4 : GoodF Tryd.prog 68 := ⟨Tryd.f68, Tryd.func68, by kernel_rfl, by kernel_rfl⟩
theorem sumAt_mem {f : Nat} {s : Sum} : ∀ {l : List (Nat × Sum)}, sumAt f l = some s → (f, s) ∈ l
  | (g, t) :: l, h => by
    unfold sumAt at h
    cases hb : Nat.beq f g with
    | true =>
      rw [hb] at h
      simp only [cond_true, Option.some.injEq] at h
      obtain rfl := Nat.eq_of_beq_eq_true hb
      rw [h]; exact List.mem_cons_self
    | false => rw [hb] at h; exact List.mem_cons_of_mem _ (sumAt_mem h)
theorem sums_good {I : Inv} (hI : ∀ m h w, I m h w → ∃ mx, w.cell? ⟨0, 0, none⟩ = some (.int .i64 mx)) : ∀ p ∈ sums, GoodF Tryd.prog p.1 ∧ SumOK Tryd.prog I p.1 p.2 := by
  intro p hp
  rcases List.mem_cons.1 hp with rfl | hp
  · exact ⟨good1, sumSplit_ok hI Tryd.strings_Split⟩
  rcases List.mem_cons.1 hp with rfl | hp
  · exact ⟨good2, sumJoin_ok (I := I) Tryd.strings_Join_none Tryd.strings_Join⟩
  rcases List.mem_cons.1 hp with rfl | hp
  · exact ⟨good3, sumCmp_ok (I := I) Tryd.strings_Compare⟩
  rcases List.mem_cons.1 hp with rfl | hp
  · exact ⟨good4, names_sum (I := I)⟩
  cases hp
theorem ctx_ok {I : Inv} (hI : ∀ m h w, I m h w → ∃ mx, w.cell? ⟨0, 0, none⟩ = some (.int .i64 mx)) : CtxOK ctx I (regOk ctx.P) := by
  refine ⟨fun f hf => mask_ok (k := 120) (of_decide_eq_true (by kernel_rfl)) mask_all f hf, fun f s hs args h v h' e => ?_⟩
  obtain ⟨h1, h2⟩ := sums_good hI (f, s) (sumAt_mem hs)
  exact ⟨h1, h2 args h v h' e⟩
theorem maxLen {w : World} (h : w.ShapedOpen Tryd.prog) : ∃ m, w.cell? ⟨0, 0, none⟩ = some (.int .i64 m) :=
  Go.Proofs.cell_of_shapedOpen_int (zero := #[.int .i64 0]) (t := 3) h (of_decide_eq_true (by kernel_rfl)) (by kernel_rfl) rfl (by kernel_rfl) (by kernel_rfl) Tryd.underlying3
end Go.Proofs.YtncmgiddcefpcaaDoor
namespace Go.Proofs.YtncmgiddcefpcaaDoor
open Go Go.Ev Go.RowKit
set_option linter.unusedSimpArgs false
set_option linter.unusedVariables false
set_option maxRecDepth 100000
def sumTrue : Sum := fun _ h => some (.bool true, h)
theorem sumTrue_ok {I : Inv} {f : FuncId} (hI : ∀ m h w, I m h w → ∃ mx, w.cell? ⟨0, 0, none⟩ = some (.int .i64 mx)) {n : Nat} (e : (evCall ctx n f [] h0).map (·.1) = some (.bool true)) : ∀ h v h', sumTrue [] h = some (v, h') → ∀ m w args', Rep ctx.P m h w → I m h w → VL m [] args' →
    Calls ctx.P f args'.toArray w fun e w' => ∃ v' m', e = .returned v' ∧ Rep ctx.P m' h' w' ∧ Step m h w m' h' w' ∧ VRel m' v v' := by
  intro h v h' hs m w args' r hi hv
  cases hv
  cases hs
  have hC : CtxOK ctx (From m0 h0 w) (regOk ctx.P) := ctx_ok fun _ _ _ i => (hI m h w hi).imp fun _ e => i.cell0 e
  refine (closed_bool hC ctx_mix e).mono fun e w' he => ?_
  obtain ⟨rfl, hb⟩ := he
  obtain ⟨h1, h2⟩ := r.below hb
  exact ⟨_, m, rfl, h1, h2, .bool _⟩
theorem awake_val : (awakes.all fun f => match ((evCall ctx 200 f [] h0).map (·.1) : Option Value) with
  | some (.bool b) => b
  | _ => false) = true := by kernel_rfl
theorem awake_good : (awakes.all fun f => match Tryd.prog.funcs[f]? with
  | some fn => fn.body.isSome && !(fn.name == "runtime.NumGoroutine")
  | none => false) = true := by kernel_rfl
theorem kon_ok {I : Inv} (hI : ∀ m h w, I m h w → ∃ mx, w.cell? ⟨0, 0, none⟩ = some (.int .i64 mx)) : CtxOK kon I (regOk kon.P) := by
  have base := ctx_ok hI
  refine ⟨base.1, fun f s hs args h v h' e => ?_⟩
  simp only [kon] at hs
  cases hf : awakes.contains f with
  | false => rw [hf] at hs; exact base.2 f s hs args h v h' e
  | true =>
    rw [hf] at hs
    simp only [cond_true, Option.some.injEq] at hs
    subst hs
    have hm : f ∈ awakes := by simpa using hf
    have h1 := List.all_eq_true.1 awake_val f hm
    have h2 := List.all_eq_true.1 awake_good f hm
    unfold sumAwake at e
    split at e
    · refine ⟨?_, fun m w args' r hi hv => ?_⟩
      · split at h2
        · rename_i fn hfn
          simp only [Bool.and_eq_true, Bool.not_eq_true'] at h2
          exact ⟨fn, hfn, h2.2, by have := h2.1; cases hb : fn.body <;> simp_all⟩
        · cases h2
      · refine sumTrue_ok hI (n := 200) ?_ h v h' (by simpa [sumTrue] using e) m w args' r hi hv
        split at h1
        · rename_i b hb
          rw [hb, h1]
        · cases h1
    · cases e
theorem kon_mix : kon.P.follows .mixedOrders = true := ctx_mix
theorem kon_from {w0 : World} (h : w0.ShapedOpen Tryd.prog) : CtxOK kon (From (mIn w0) (hIn w0) w0) (regOk kon.P) :=
  kon_ok fun _ _ _ i => (maxLen h).imp fun _ e => i.cellIn e
end Go.Proofs.YtncmgiddcefpcaaDoor
namespace Go.Proofs.YtncmgiddcefpcaaDoor
open Go Go.Ev Go.RowKit
set_option linter.unusedSimpArgs false
set_option linter.unusedVariables false
set_option maxRecDepth 1000000
end Go.Proofs.YtncmgiddcefpcaaDoor
namespace Go.Proofs.YtncmgiddcefpcaaDoor
open Go Go.Ev Go.Con
set_option linter.unusedSimpArgs false
set_option linter.unusedVariables false
set_option maxRecDepth 100000
end Go.Proofs.YtncmgiddcefpcaaDoor
namespace Go.Proofs.YtncmgiddcefpcaaDoor
open Go Go.Ev Go.Con
set_option linter.unusedSimpArgs false
set_option linter.unusedVariables false
set_option maxRecDepth 100000
theorem find_at {l : List Tm} {i : Nat} {x : Tm} {u : ByteArray} (hi : l[i]? = some x) (hx : x.user = u) (hp : ∀ t ∈ l.take i, t.user ≠ u) : l.find? (fun t => decide (t.user = u)) = some x := by
  obtain ⟨h3, rfl⟩ := List.getElem?_eq_some_iff.1 hi
  rw [List.find?_eq_some_iff_getElem]
  refine ⟨decide_eq_true hx, i, h3, rfl, fun j hj => ?_⟩
  have := hp l[j] (List.mem_take_iff_getElem.2 ⟨j, by omega, rfl⟩)
  simpa using this
end Go.Proofs.YtncmgiddcefpcaaDoor
namespace Go.Proofs.YtncmgiddcefpcaaDoor
open Go Go.Ev Go.Con
set_option linter.unusedSimpArgs false
set_option linter.unusedVariables false
set_option maxRecDepth 100000
end Go.Proofs.YtncmgiddcefpcaaDoor
namespace Go.Proofs.YtncmgiddcefpcaaDoor
open Go Go.Ev Go.Con
set_option linter.unusedSimpArgs false
set_option linter.unusedVariables false
set_option maxRecDepth 100000
def idV (v : Value) : Value := v
def slW (b n : Nat) : Value := .slice (some ⟨b, 0, none⟩) n (2 * n)
def wdC (w : List Int) : List Value := w.map (.int .u64)
def roomV (S : Sto) (ws : List Nat) (u : Int) : Option Value := (S.room u).map fun w => slW (ws.getD (u.toNat - 1) 0) w.length
structure StoB (h : Hp) (F : Nat → Prop) (S : Sto) (bs bm : Nat) (ws : List Nat) : Prop where
  len : ws.length = S.L.length
  row : h.get bs = some (.row [.int .i64 S.quota, .int .i64 S.used, .int .i64 S.L.length, .map (some bm)] 145 (.rw 0 []))
  m : MapIs keyI idV h bm (roomV S ws)
  wd : ∀ (i : Nat) (w : List Int), S.L[i]? = some (some w) → ∃ b : Nat, ws[i]? = some b ∧ h.get b = some (.row (wdC w) 222 (.rw 0 []))
  nd : ws.Nodup
  nF : ∀ b ∈ ws, F b
  own : F bs ∧ F bm
  lt : ∀ k, F k → k < h.next
  ok : S.Ok
def StoAt (h : Hp) (F : Nat → Prop) (S : Sto) (bs : Nat) : Prop := ∃ bm ws, StoB h F S bs bm ws
section
variable {h : Hp} {F : Nat → Prop} {S : Sto} {bs bm : Nat} {ws : List Nat}
theorem StoB.keep (t : StoB h F S bs bm ws) {h' : Hp} (hn : h.next ≤ h'.next) (hs : ∀ k, F k → h'.get k = h.get k) : StoB h' F S bs bm ws := by
  refine ⟨t.len, by rw [hs bs t.own.1]; exact t.row, t.m.eq (hs bm t.own.2), fun i w hi => ?_, t.nd, t.nF, t.own, fun k hk => Nat.lt_of_lt_of_le (t.lt k hk) hn, t.ok⟩
  obtain ⟨b, h1, h2⟩ := t.wd i w hi
  exact ⟨b, h1, by rw [hs b (t.nF b (List.mem_of_getElem? h1))]; exact h2⟩
theorem StoAt.keep (t : StoAt h F S bs) {h' : Hp} (hn : h.next ≤ h'.next) (hs : ∀ k, F k → h'.get k = h.get k) : StoAt h' F S bs := by
  obtain ⟨bm, ws, t⟩ := t; exact ⟨bm, ws, t.keep hn hs⟩
theorem StoAt.keeps (t : StoAt h F S bs) {h' : Hp} (k : Keep h h') : StoAt h' F S bs := by
  obtain ⟨bm, ws, t⟩ := t; exact ⟨bm, ws, t.keep k.1 fun j hj => k.2 j (t.lt j hj)⟩
theorem StoB.ne (t : StoB h F S bs bm ws) : bs ≠ bm := by obtain ⟨es, ck, hg⟩ := t.m.get; exact get_ne t.row hg (by simp)
theorem StoB.at (t : StoB h F S bs bm ws) {u : Int} {w : List Int} (hr : S.room u = some w) : ∃ b, ws[u.toNat - 1]? = some b ∧ roomV S ws u = some (slW b w.length) ∧ F b ∧ h.get b = some (.row (wdC w) 222 (.rw 0 [])) ∧ b ≠ bs ∧ b ≠ bm := by
  obtain ⟨h1, h2, h3⟩ := Sto.room_some hr
  obtain ⟨b, e1, e2⟩ := t.wd _ w h3
  obtain ⟨es, ck, hg⟩ := t.m.get
  refine ⟨b, e1, ?_, t.nF b (List.mem_of_getElem? e1), e2, get_ne e2 t.row (by simp), get_ne e2 hg (by simp)⟩
  unfold roomV
  rw [hr, List.getD_eq_getElem?_getD, e1]; rfl
theorem StoB.look (t : StoB h F S bs bm ws) (u : Int) (f : Bool) : evLookup kon.P 143 (.map (some bm)) (.int .i64 u) f h = some (match roomV S ws u with
    | some v => bif f then .tuple #[v, .bool true] else v
    | none => bif f then .tuple #[.slice none 0 0, .bool false] else .slice none 0 0) := by
  have := t.m.look (kt := 3) (et := 146) (t := 143) (P := kon.P) (by kernel_rfl) (keyI_ok Tryd.underlying3) (z := .slice none 0 0) (by kernel_rfl) rfl u f
  unfold keyI at this
  rw [this]
  cases roomV S ws u <;> rfl
theorem StoB.setR (t : StoB h F S bs bm ws) {u : Int} {w : List Int} (hr : S.room u = some w) {o : Option (List Int)} {ws' : List Nat} {F' : Nat → Prop} {h' : Hp} (hF : ∀ j, F j → F' j) (hlt : ∀ j, F' j → j < h'.next)
    (ok : (S.setR u o).Ok) (hl : ws'.length = ws.length) (hw : ∀ i, i ≠ u.toNat - 1 → ws'[i]? = ws[i]?) (nd : ws'.Nodup) (nF : ∀ b ∈ ws', F' b)
    (row : h'.get bs = some (.row [.int .i64 S.quota, .int .i64 ((S.setR u o).used : Nat), .int .i64 S.L.length, .map (some bm)] 145 (.rw 0 [])))
    (m : MapIs keyI idV h' bm (roomV (S.setR u o) ws')) (old : ∀ (i b : Nat), i ≠ u.toNat - 1 → ws[i]? = some b → b ≠ bs → b ≠ bm → h'.get b = h.get b)
    (new : ∀ w', o = some w' → ∃ b : Nat, ws'[u.toNat - 1]? = some b ∧ h'.get b = some (.row (wdC w') 222 (.rw 0 []))) : StoB h' F' (S.setR u o) bs bm ws' := by
  obtain ⟨h1, h2, h3⟩ := Sto.room_some hr
  refine ⟨by rw [hl, t.len]; simp [Sto.setR], by rw [row]; simp [Sto.setR], m, fun i z hi => ?_, nd, nF, ⟨hF _ t.own.1, hF _ t.own.2⟩, hlt, ok⟩
  by_cases hii : i = u.toNat - 1
  · subst hii
    have hi : (S.L.set (u.toNat - 1) o)[u.toNat - 1]? = some (some z) := hi
    rw [List.getElem?_set_self h2] at hi
    exact new z (Option.some.inj hi)
  · have hi : (S.L.set (u.toNat - 1) o)[i]? = some (some z) := hi
    rw [List.getElem?_set_ne (Ne.symm hii)] at hi
    obtain ⟨b, e1, e2⟩ := t.wd i z hi
    obtain ⟨es, ck, hgm⟩ := t.m.get
    exact ⟨b, by rw [hw i hii]; exact e1, by rw [old i b hii e1 (get_ne e2 t.row (by simp)) (get_ne e2 hgm (by simp))]; exact e2⟩
end
end Go.Proofs.YtncmgiddcefpcaaDoor
namespace Go.Proofs.YtncmgiddcefpcaaDoor
open Go Go.Ev Go.Con
set_option linter.unusedSimpArgs false
set_option linter.unusedVariables false
set_option maxRecDepth 100000
end Go.Proofs.YtncmgiddcefpcaaDoor
namespace Go.Proofs.YtncmgiddcefpcaaDoor
open Go Go.Ev Go.Con
set_option linter.unusedSimpArgs false
set_option linter.unusedVariables false
set_option maxRecDepth 100000
end Go.Proofs.YtncmgiddcefpcaaDoor
namespace Go.Proofs.YtncmgiddcefpcaaDoor
open Go Go.Ev Go.Con
set_option linter.unusedSimpArgs false
set_option linter.unusedVariables false
set_option maxRecDepth 100000
theorem TreeAt.lt {h : Hp} {F : Nat → Prop} {T : Hi} {bt : Nat} (t : TreeAt h F T bt) {k : Nat} (hk : F k) : k < h.next := by obtain ⟨_, _, _, _, t⟩ := t; exact t.lt k hk
theorem StoAt.lt {h : Hp} {F : Nat → Prop} {S : Sto} {bt : Nat} (t : StoAt h F S bt) {k : Nat} (hk : F k) : k < h.next := by obtain ⟨_, _, t⟩ := t; exact t.lt k hk
structure TS (n : Nat) (h : Hp) (F G : Nat → Prop) (T : Hi) (S : Sto) (bt bs : Nat) : Prop where
  t : TreeAt h F T bt
  s : StoAt h G S bs
  dj : ∀ k, F k → ¬ G k
  nF : ∀ k, F k → n ≤ k
  nG : ∀ k, G k → n ≤ k
  le : n ≤ h.next
section
variable {n : Nat} {h h' : Hp} {F F' G G' : Nat → Prop} {T T' : Hi} {S S' : Sto} {bt bs : Nat}
theorem TS.keeps (x : TS n h F G T S bt bs) (k : Keep h h') : TS n h' F G T S bt bs := ⟨x.t.keeps k, x.s.keeps k, x.dj, x.nF, x.nG, Nat.le_trans x.le k.1⟩
theorem TS.tree (x : TS n h F G T S bt bs) (u : Upd h F h' F') (t : TreeAt h' F' T' bt) : TS n h' F' G T' S bt bs ∧ ∀ k, k < n → h'.get k = h.get k := by
  have hs : ∀ k, G k → h'.get k = h.get k := fun k hk => u.same k (x.s.lt hk) fun hf => x.dj k hf hk
  refine ⟨⟨t, x.s.keep u.next hs, fun k hf hg => ?_, fun k hf => ?_, x.nG, Nat.le_trans x.le u.next⟩, fun k hk => u.same k (Nat.lt_of_lt_of_le hk x.le) fun hf => ?_⟩
  · rcases u.own k hf with h1 | h1
    · exact x.dj k h1 hg
    · have := x.s.lt hg; omega
  · rcases u.own k hf with h1 | h1
    · exact x.nF k h1
    · exact Nat.le_trans x.le h1
  · have := x.nF k hf; omega
end
structure TL (L : Nat → Prop) (h : Hp) (F G : Nat → Prop) (T : Hi) (S : Sto) (bt bs : Nat) : Prop where
  t : TreeAt h F T bt
  s : StoAt h G S bs
  dj : ∀ k, F k → ¬ G k
  nF : ∀ k, L k → ¬ F k
  nG : ∀ k, L k → ¬ G k
  lt : ∀ k, L k → k < h.next
section
variable {n : Nat} {L : Nat → Prop} {h h' : Hp} {F F' G G' : Nat → Prop} {T T' : Hi} {S S' : Sto} {bt bs : Nat}
theorem TS.own (x : TS n h F G T S bt bs) : TL (fun k => k < n) h F G T S bt bs := ⟨x.t, x.s, x.dj, fun k hk hf => by have := x.nF k hf; omega, fun k hk hg => by have := x.nG k hg; omega, fun k hk => Nat.lt_of_lt_of_le hk x.le⟩
theorem TL.keeps (x : TL L h F G T S bt bs) (k : Keep h h') : TL L h' F G T S bt bs := ⟨x.t.keeps k, x.s.keeps k, x.dj, x.nF, x.nG, fun j hj => Nat.lt_of_lt_of_le (x.lt j hj) k.1⟩
theorem TL.more (x : TL L h F G T S bt bs) (k : Keep h h') {b : Nat} (h1 : h.next ≤ b) (h2 : b < h'.next) : TL (fun j => L j ∨ j = b) h' F G T S bt bs := by
  have y := x.keeps k
  refine ⟨y.t, y.s, y.dj, fun j hj hf => ?_, fun j hj hg => ?_, fun j hj => ?_⟩
  · rcases hj with hj | rfl
    · exact x.nF j hj hf
    · have := x.t.lt hf; omega
  · rcases hj with hj | rfl
    · exact x.nG j hj hg
    · have := x.s.lt hg; omega
  · rcases hj with hj | rfl
    · exact y.lt j hj
    · exact h2
theorem TL.tree (x : TL L h F G T S bt bs) (u : Upd h F h' F') (t : TreeAt h' F' T' bt) : TL L h' F' G T' S bt bs ∧ ∀ k, L k → h'.get k = h.get k := by
  have hs : ∀ k, G k → h'.get k = h.get k := fun k hk => u.same k (x.s.lt hk) fun hf => x.dj k hf hk
  refine ⟨⟨t, x.s.keep u.next hs, fun k hf hg => ?_, fun k hk hf => ?_, x.nG, fun j hj => Nat.lt_of_lt_of_le (x.lt j hj) u.next⟩, fun k hk => u.same k (x.lt k hk) (x.nF k hk)⟩
  · rcases u.own k hf with h1 | h1
    · exact x.dj k h1 hg
    · have := x.s.lt hg; omega
  · rcases u.own k hf with h1 | h1
    · exact x.nF k hk h1
    · have := x.lt k hk; omega
end
end Go.Proofs.YtncmgiddcefpcaaDoor
namespace Go.Proofs.YtncmgiddcefpcaaDoor
open Go Go.Ev Go.RowKit Go.Con
set_option linter.unusedSimpArgs false
set_option linter.unusedVariables false
set_option maxRecDepth 1000000
end Go.Proofs.YtncmgiddcefpcaaDoor
namespace Go.Proofs.YtncmgiddcefpcaaDoor
open Go Go.Ev Go.RowKit Go.Con
set_option linter.unusedSimpArgs false
set_option linter.unusedVariables false
set_option maxRecDepth 1000000
end Go.Proofs.YtncmgiddcefpcaaDoor
namespace Go.Proofs.YtncmgiddcefpcaaDoor
open Go Go.Ev Go.RowKit Go.Con
set_option linter.unusedSimpArgs false
set_option linter.unusedVariables false
set_option maxRecDepth 1000000
def prC (p : UInt8 × UInt8) : List Value := [.int .u8 p.1.toNat, .int .u8 p.2.toNat]
abbrev PrSl (h : Hp) (v : Value) (l : List (UInt8 × UInt8)) : Prop := SlAt h 2 v ((l.map prC).flatten)
theorem pr_len (l : List (UInt8 × UInt8)) : ((l.map prC).flatten).length = l.length * 2 := by
  induction l with
  | nil => rfl
  | cons a l ih => simp only [List.map_cons, List.flatten_cons, List.length_append, ih, List.length_cons]; simp [prC]; omega
theorem pr_at (l : List (UInt8 × UInt8)) {i : Nat} {x : UInt8 × UInt8} (h : l[i]? = some x) : (((l.map prC).flatten).drop (i * 2)).take 2 = prC x := by
  induction l generalizing i with
  | nil => simp at h
  | cons a l ih =>
    cases i with
    | zero => simp at h; subst h; simp [prC]
    | succ i =>
      have := ih (i := i) (by simpa using h)
      rw [List.map_cons, List.flatten_cons, show (i + 1) * 2 = (prC a).length + i * 2 by simp [prC]; omega, List.drop_length_add_append]
      exact this
theorem PrSl.len {h : Hp} {v : Value} {l : List (UInt8 × UInt8)} (s : PrSl h v l) : evLen kon.P 100 v = some (.int .i64 l.length) := by
  have fl := pr_len l
  rcases s with ⟨rfl, hl⟩ | ⟨b, o, k, c, all, rfl, h2, h3, h4, h5, h6⟩
  · rw [hl] at fl
    have : l = [] := List.length_eq_zero_iff.1 (by simp at fl; omega)
    subst this; exact evLen_slice (e := 102) (by kernel_rfl)
  · have : k = l.length := by omega
    subst this
    exact evLen_slice (e := 102) (by kernel_rfl)
theorem PrSl.at {h : Hp} {v : Value} {l : List (UInt8 × UInt8)} (s : PrSl h v l) {i : Nat} {x : UInt8 × UInt8} (hi : l[i]? = some x) : ∃ b o all, evIndexAddr kon.P 100 v (.int .i64 i) = some (.pointer (some ⟨b, o, none⟩)) ∧ b < h.next ∧ rowOf h b = some all ∧
    all[o]? = some (.int .u8 x.1.toNat) ∧ all[o + 1]? = some (.int .u8 x.2.toNat) := by
  have fl := pr_len l
  have hlt : i < l.length := (List.getElem?_eq_some_iff.1 hi).1
  rcases s with ⟨rfl, hl⟩ | ⟨b, o, k, c, all, rfl, h2, h3, h4, h5, h6⟩
  · rw [hl] at fl; simp at fl; omega
  · have hk : k = l.length := by omega
    subst hk
    have hc : (all.drop (o + i * 2)).take 2 = prC x := by
      have := pr_at l hi
      rw [← h6, List.drop_take, List.take_take, List.drop_drop] at this
      rw [← this]; congr 1; omega
    have e : ∀ j, j < 2 → all[o + i * 2 + j]? = (prC x)[j]? := fun j hj => by rw [← hc, List.getElem?_take, if_pos hj, List.getElem?_drop]
    refine ⟨b, o + i * 2, all, ?_, h3, h4, e 0 (by decide), e 1 (by decide)⟩
    have := L_indexAddr (C := kon) (t := 100) (e := 102) (n := 2) (by kernel_rfl) (by kernel_rfl) b o l.length c .i64 i (by omega) (by omega)
    simpa using this
def rng (n : Nat) : List Int := (List.range n).map fun k : Nat => (k : Int)
theorem rng_at {n k : Nat} (h : k < n) : (rng n)[k]? = some (k : Int) := by unfold rng; simp [h]
theorem rng_len (n : Nat) : (rng n).length = n := by simp [rng]
theorem rng_succ (n : Nat) : rng (n + 1) = rng n ++ [(n : Int)] := by unfold rng; rw [List.range_succ, List.map_append]; rfl
def insZ (l : List Nat) : List Int := l.map fun k : Nat => (k : Int)
def TdS (h H : Hp) (bt i : Nat) (v4 v5 v6 v7 : Value) : Prop := ∃ c T ins up gone, WD h H c T bt [(v4, 3, zs (rng T.D.length)), (v5, 3, zs (insZ ins)), (v6, 3, zs up), (v7, 4, bs gone)] ∧ TdI T ins up gone i
theorem TmTyc {h : Hp} {F : Nat → Prop} {v : Value} {l : List Tm} (s : TmTy h F v l) : isCell v = true ∧ v.cells = #[v] := ⟨SlTy.isCell s, SlTy.cellsV s⟩
theorem StrSl.at2' {h : Hp} {v : Value} {l : List ByteArray} (s : StrSl h v l) {i : Nat} {x : ByteArray} (hi : l[i]? = some x) : ∃ b o all, evIndexAddr kon.P 23 v (.int .i64 i) = some (.pointer (some ⟨b, o, none⟩)) ∧ b < h.next ∧ rowOf h b = some all ∧ all[o]? = some (.string x) ∧ ∃ o' k cp, v = .slice (some ⟨b, o', none⟩) k cp := by
  have hlt : i < l.length := (List.getElem?_eq_some_iff.1 hi).1
  rcases s with ⟨rfl, hl⟩ | ⟨b, o, k, c, all, rfl, h2, h3, h4, h5, h6⟩
  · have : l = [] := by simpa [strs] using hl
    subst this; simp at hlt
  · have hk : k = l.length := by simpa [strs] using h5.symm
    subst hk
    refine ⟨b, o + i, all, ?_, h3, h4, ?_, _, _, _, rfl⟩
    · have := L_indexAddr (C := kon) (t := 23) (e := 9) (n := 1) (by kernel_rfl) (by kernel_rfl) b o l.length c .i64 i (by omega) (by omega)
      simpa using this
    · have h7 : ((all.drop o).take (l.length * 1))[i]? = some (.string x) := by rw [h6]; simp [strs, hi]
      rw [List.getElem?_take, if_pos (by omega), List.getElem?_drop] at h7
      exact h7
theorem sortedN_lenD (T : Hi) (d : Int) : (sortedN T d).length = T.count d := by
  unfold sortedN
  rw [List.length_map, (sortB_perm _).length_eq, List.length_map]
  unfold Hi.namesOf Hi.count
  rw [List.length_map, List.countP_eq_length_filter]
theorem str_two (n m : Int) (H : Hp) : convV kon.P 35 9 (H.push (.row [.int .u8 n, .int .u8 m] 5 (.rw 0 []))) (.slice (some ⟨H.next, 0, none⟩) 2 (2 * 2)) = some (.string ⟨#[UInt8.ofNat n.toNat, UInt8.ofNat m.toNat]⟩) := by
  refine convV_eq ?_
  have h1 : tSliceElem kon.P 35 = some 5 := by kernel_rfl
  have h2 : kon.P.underlying 5 = some (.int .u8) := by kernel_rfl
  have h3 : tString kon.P 9 = some true := by kernel_rfl
  have hr : rowOf (H.push (.row [.int .u8 n, .int .u8 m] 5 (.rw 0 []))) H.next = some [.int .u8 n, .int .u8 m] := by
    rw [row_push_eq rfl]; rfl
  unfold bytesStr
  rw [h1]
  simp only [Option.bind_some, h2, h3]
  have hc : evCells 1 2 (.slice (some ⟨H.next, 0, none⟩) 2 (2 * 2)) (H.push (.row [.int .u8 n, .int .u8 m] 5 (.rw 0 []))) = some [.int .u8 n, .int .u8 m] := by
    show (bif 2 * 1 == 0 then some [] else (rowOf _ H.next).bind fun cs => bif decide (0 + 2 * 1 ≤ cs.length) then some ((cs.drop 0).take (2 * 1)) else none) = _
    rw [hr]; rfl
  rw [hc]; rfl
theorem nm_num : ∀ i : Nat, i < 60 → IntKind.i64.wrap (Int.tdiv (i : Int) 10) = ((i / 10 : Nat) : Int) ∧ IntKind.u8.wrap ((i / 10 : Nat) : Int) = ((i / 10 : Nat) : Int) ∧ IntKind.u8.wrap (48 + ((i / 10 : Nat) : Int)) = ((48 + i / 10 : Nat) : Int) ∧ Int.tmod (i : Int) 10 = ((i % 10 : Nat) : Int) ∧ IntKind.u8.wrap ((i % 10 : Nat) : Int) = ((i % 10 : Nat) : Int) ∧ IntKind.u8.wrap (48 + ((i % 10 : Nat) : Int)) = ((48 + i % 10 : Nat) : Int) := by decide +kernel
set_option maxHeartbeats 8000000 in
theorem treeDirs_true {h : Hp} {v : Value} {l : List (UInt8 × UInt8)} (s : PrSl h v l) : Meets kon 18 [v] h fun v _ => v = .bool true := by
  refine Meets.mk rfl (by kernel_rfl) Tryd.func18 rfl (congrArg Array.toList Tryd.results18) ?_
  have aw := fun h => awake_call (f := 33) (by kernel_rfl) h
  have la := PrSl.len s
  have ep : ∀ b, ptrV b = .pointer (some ⟨b, 0, none⟩) := fun _ => rfl
  have en : ∀ n : Nat, (some (⟨n, 0, none⟩ : Addr) == none) = false := fun n => rfl
  repeat' (first | simp only [evr, nextP_norm, evd, evq, beq_self_eq_true, cond_true, cond_false, reduceIte, Nat.reduceEqDiff, Nat.reduceAdd, Int.reduceBNe, Int.reduceBEq, Int.reduceLT, Int.reduceLE, Int.reduceEq, evh, evp, Nat.reduceLeDiff, Nat.reduceSub, Nat.reduceBEq, typs, aw] | refine kCond2_by (fun hc => ?_) (fun hc => ?_) <;> try simp only [hc] | refine kPick_by (fun hc => ?_) (fun hc => ?_) <;> try simp only [hc] | refine kWant_by (fun hc => ?_) (fun hc => ?_) <;> try simp only [hc])
  refine callP_meets (tNew_spec h) ?_
  rintro _ h1 ⟨F, bt, rfl, k1, t1, fF⟩
  by_cases hm : 60 < l.length
  · have f1 : decide ((60 : Int) < (l.length : Int)) = true := decide_eq_true (by omega)
    repeat' (first | simp only [evr, nextP_norm, evd, evq, beq_self_eq_true, cond_true, cond_false, reduceIte, Nat.reduceEqDiff, Nat.reduceAdd, Int.reduceBNe, Int.reduceBEq, Int.reduceLT, Int.reduceLE, Int.reduceEq, evh, evp, Nat.reduceLeDiff, Nat.reduceSub, Nat.reduceBEq, typs, ep bt, en, la, f1] | refine kCond2_by (fun hc => ?_) (fun hc => ?_) <;> try simp only [hc] | refine kPick_by (fun hc => ?_) (fun hc => ?_) <;> try simp only [hc] | refine kWant_by (fun hc => ?_) (fun hc => ?_) <;> try simp only [hc])
  have f1 : decide ((60 : Int) < (l.length : Int)) = false := decide_eq_false (by omega)
  repeat' (first | simp only [evr, nextP_norm, evd, evq, beq_self_eq_true, cond_true, cond_false, reduceIte, Nat.reduceEqDiff, Nat.reduceAdd, Int.reduceBNe, Int.reduceBEq, Int.reduceLT, Int.reduceLE, Int.reduceEq, evh, evp, Nat.reduceLeDiff, Nat.reduceSub, Nat.reduceBEq, typs, ep bt, en, la, f1] | refine kCond2_by (fun hc => ?_) (fun hc => ?_) <;> try simp only [hc] | refine kPick_by (fun hc => ?_) (fun hc => ?_) <;> try simp only [hc] | refine kWant_by (fun hc => ?_) (fun hc => ?_) <;> try simp only [hc])
  generalize hh : Hp.push (Hp.push (Hp.push (Hp.push h1 _) _) _) _ = H0
  have g0 : H0.get h1.next = some (.row [.int .i64 0] 3 (.rw 0 [])) := by
    rw [← hh, Hp.get_push_lt (by simp only [Hp.next_push]; omega), Hp.get_push_lt (by simp only [Hp.next_push]; omega), Hp.get_push_lt (by simp only [Hp.next_push]; omega)]; exact Hp.get_push_self _ _
  have g1 : H0.get (h1.next + 1) = some (.row [.int .i64 0] 3 (.rw 0 [])) := by
    rw [← hh, Hp.get_push_lt (by simp only [Hp.next_push]; omega), Hp.get_push_lt (by simp only [Hp.next_push]; omega)]; exact Hp.get_push_self (h1.push _) _
  have g2 : H0.get (h1.next + 2) = some (.row [.int .i64 (-1)] 3 (.rw 0 [])) := by
    rw [← hh, Hp.get_push_lt (by simp only [Hp.next_push]; omega)]; exact Hp.get_push_self ((h1.push _).push _) _
  have g3 : H0.get (h1.next + 3) = some (.row [.bool false] 4 (.rw 0 [])) := by rw [← hh]; exact Hp.get_push_self (((h1.push _).push _).push _) _
  have k0 : Keep h1 H0 := by rw [← hh]; exact (((Keep.push _ _).pushed).pushed).pushed
  have n0 : H0.next = h1.next + 4 := by rw [← hh]; rfl
  clear hh
  have n1 := k1.1
  have st0 : TdS h H0 bt 0 (.slice (some ⟨h1.next, 0, none⟩) 1 2) (.slice (some ⟨h1.next + 1, 0, none⟩) 1 2) (.slice (some ⟨h1.next + 2, 0, none⟩) 1 2) (.slice (some ⟨h1.next + 3, 0, none⟩) 1 2) := by
    have lF : ∀ b, F b → b < h1.next := fun b hb => t1.ltF hb
    obtain ⟨c0, w0, e0⟩ := WD.start (k1.trans k0) (t1.keeps k0) fF
    obtain ⟨c1, w1, e1⟩ := w0.add (x := (.slice (some ⟨h1.next, 0, none⟩) 1 2, 3, [.int .i64 0])) (gr_one g0 (by omega)) fun b hb => ⟨(e0 b).2 fun hf => by have := lF b hf; omega, by omega⟩
    obtain ⟨c2, w2, e2⟩ := w1.add (x := (.slice (some ⟨h1.next + 1, 0, none⟩) 1 2, 3, [.int .i64 0])) (gr_one g1 (by omega)) fun b hb => ⟨(e1 b).2 ⟨(e0 b).2 fun hf => by have := lF b hf; omega, by omega⟩, by omega⟩
    obtain ⟨c3, w3, e3⟩ := w2.add (x := (.slice (some ⟨h1.next + 2, 0, none⟩) 1 2, 3, [.int .i64 (-1)])) (gr_one g2 (by omega)) fun b hb => ⟨(e2 b).2 ⟨(e1 b).2 ⟨(e0 b).2 fun hf => by have := lF b hf; omega, by omega⟩, by omega⟩, by omega⟩
    obtain ⟨c4, w4, e4⟩ := w3.add (x := (.slice (some ⟨h1.next + 3, 0, none⟩) 1 2, 4, [.bool false])) (gr_one g3 (by omega)) fun b hb => ⟨(e3 b).2 ⟨(e2 b).2 ⟨(e1 b).2 ⟨(e0 b).2 fun hf => by have := lF b hf; omega, by omega⟩, by omega⟩, by omega⟩, by omega⟩
    exact ⟨c4, newHi, [0], [-1], [false], w4, td_new⟩
  refine Wp_loop (fun k fr H => ∃ (i : Nat) (v4 v5 v6 v7 : Value), k = l.length - i ∧ i ≤ l.length ∧ TdS h H bt i v4 v5 v6 v7 ∧ fr.get 0 = some v ∧ fr.get 3 = some (.pointer (some ⟨bt, 0, none⟩)) ∧ fr.get 4 = some v4 ∧ fr.get 5 = some v5 ∧ fr.get 6 = some v6 ∧ fr.get 7 = some v7 ∧ fr.get 8 = some (.int .i64 i)) l.length ⟨0, _, _, _, _, rfl, Nat.zero_le _, st0, ?_, ?_, ?_, ?_, ?_, ?_, ?_⟩ ?_
  · repeat' (first | simp only [evr, nextP_norm, evd, evq, beq_self_eq_true, cond_true, cond_false, reduceIte, Nat.reduceEqDiff, Nat.reduceAdd, Int.reduceBNe, Int.reduceBEq, Int.reduceLT, Int.reduceLE, Int.reduceEq, evh, evp, Nat.reduceLeDiff, Nat.reduceSub, Nat.reduceBEq, typs] | refine kCond2_by (fun hc => ?_) (fun hc => ?_) <;> try simp only [hc] | refine kPick_by (fun hc => ?_) (fun hc => ?_) <;> try simp only [hc] | refine kWant_by (fun hc => ?_) (fun hc => ?_) <;> try simp only [hc])
  · repeat' (first | simp only [evr, nextP_norm, evd, evq, beq_self_eq_true, cond_true, cond_false, reduceIte, Nat.reduceEqDiff, Nat.reduceAdd, Int.reduceBNe, Int.reduceBEq, Int.reduceLT, Int.reduceLE, Int.reduceEq, evh, evp, Nat.reduceLeDiff, Nat.reduceSub, Nat.reduceBEq, typs] | refine kCond2_by (fun hc => ?_) (fun hc => ?_) <;> try simp only [hc] | refine kPick_by (fun hc => ?_) (fun hc => ?_) <;> try simp only [hc] | refine kWant_by (fun hc => ?_) (fun hc => ?_) <;> try simp only [hc])
  · repeat' (first | simp only [evr, nextP_norm, evd, evq, beq_self_eq_true, cond_true, cond_false, reduceIte, Nat.reduceEqDiff, Nat.reduceAdd, Int.reduceBNe, Int.reduceBEq, Int.reduceLT, Int.reduceLE, Int.reduceEq, evh, evp, Nat.reduceLeDiff, Nat.reduceSub, Nat.reduceBEq, typs] | refine kCond2_by (fun hc => ?_) (fun hc => ?_) <;> try simp only [hc] | refine kPick_by (fun hc => ?_) (fun hc => ?_) <;> try simp only [hc] | refine kWant_by (fun hc => ?_) (fun hc => ?_) <;> try simp only [hc])
  · repeat' (first | simp only [evr, nextP_norm, evd, evq, beq_self_eq_true, cond_true, cond_false, reduceIte, Nat.reduceEqDiff, Nat.reduceAdd, Int.reduceBNe, Int.reduceBEq, Int.reduceLT, Int.reduceLE, Int.reduceEq, evh, evp, Nat.reduceLeDiff, Nat.reduceSub, Nat.reduceBEq, typs] | refine kCond2_by (fun hc => ?_) (fun hc => ?_) <;> try simp only [hc] | refine kPick_by (fun hc => ?_) (fun hc => ?_) <;> try simp only [hc] | refine kWant_by (fun hc => ?_) (fun hc => ?_) <;> try simp only [hc])
  · repeat' (first | simp only [evr, nextP_norm, evd, evq, beq_self_eq_true, cond_true, cond_false, reduceIte, Nat.reduceEqDiff, Nat.reduceAdd, Int.reduceBNe, Int.reduceBEq, Int.reduceLT, Int.reduceLE, Int.reduceEq, evh, evp, Nat.reduceLeDiff, Nat.reduceSub, Nat.reduceBEq, typs] | refine kCond2_by (fun hc => ?_) (fun hc => ?_) <;> try simp only [hc] | refine kPick_by (fun hc => ?_) (fun hc => ?_) <;> try simp only [hc] | refine kWant_by (fun hc => ?_) (fun hc => ?_) <;> try simp only [hc])
  · repeat' (first | simp only [evr, nextP_norm, evd, evq, beq_self_eq_true, cond_true, cond_false, reduceIte, Nat.reduceEqDiff, Nat.reduceAdd, Int.reduceBNe, Int.reduceBEq, Int.reduceLT, Int.reduceLE, Int.reduceEq, evh, evp, Nat.reduceLeDiff, Nat.reduceSub, Nat.reduceBEq, typs] | refine kCond2_by (fun hc => ?_) (fun hc => ?_) <;> try simp only [hc] | refine kPick_by (fun hc => ?_) (fun hc => ?_) <;> try simp only [hc] | refine kWant_by (fun hc => ?_) (fun hc => ?_) <;> try simp only [hc])
  · repeat' (first | simp only [evr, nextP_norm, evd, evq, beq_self_eq_true, cond_true, cond_false, reduceIte, Nat.reduceEqDiff, Nat.reduceAdd, Int.reduceBNe, Int.reduceBEq, Int.reduceLT, Int.reduceLE, Int.reduceEq, evh, evp, Nat.reduceLeDiff, Nat.reduceSub, Nat.reduceBEq, typs] | refine kCond2_by (fun hc => ?_) (fun hc => ?_) <;> try simp only [hc] | refine kPick_by (fun hc => ?_) (fun hc => ?_) <;> try simp only [hc] | refine kWant_by (fun hc => ?_) (fun hc => ?_) <;> try simp only [hc])
    rfl
  clear st0 g0 g1 g2 g3 k0 n0
  rintro k fr H ⟨i, v4, v5, v6, v7, rfl, hi, ⟨c, T, ins, up, gone, w, td⟩, r0, r3, r4, r5, r6, r7, r8⟩
  have hdl := td.dl
  have hd1 := td.one
  have S0 := w.s 0 _ rfl
  have S1 := w.s 1 _ rfl
  have S2 := w.s 2 _ rfl
  have S3 := w.s 3 _ rfl
  simp only at S0 S1 S2 S3
  have ld : evLen kon.P 70 v4 = some (.int .i64 T.D.length) := by have := zs_len_ev S0; rw [rng_len] at this; exact this
  by_cases h3 : i < l.length
  · have e3 : decide ((i : Int) < (l.length : Int)) = true := decide_eq_true (by omega)
    obtain ⟨pb, po, pall, a1, pz, a2, a3, a4⟩ := PrSl.at s (List.getElem?_eq_getElem h3)
    have a2 := (w.k.row pz).trans a2
    generalize l[i] = x at *
    have ia0 : ∀ b o, evIndexAddr kon.P 102 (.pointer (some ⟨b, o, none⟩)) (.int .i64 0) = some (.pointer (some ⟨b, o, none⟩)) := by intro b o; kernel_rfl
    have ia1 : ∀ b o, evIndexAddr kon.P 102 (.pointer (some ⟨b, o, none⟩)) (.int .i64 1) = some (.pointer (some ⟨b, o + 1, none⟩)) := by intro b o; kernel_rfl
    have cv : ∀ n : Int, prunS kon.P (convert 5 3 (.int .u8 n)) = some (.int .i64 (IntKind.i64.wrap n)) := by intro n; kernel_rfl
    have cw : ∀ n : Int, prunS kon.P (convert 3 5 (.int .i64 n)) = some (.int .u8 (IntKind.u8.wrap n)) := by intro n; kernel_rfl
    have wc : IntKind.i64.wrap (x.1.toNat : Int) = (x.1.toNat : Int) := wrap64 (by omega) (by have := x.1.toNat_lt; omega)
    have rr : Int.tmod (x.1.toNat : Int) (T.D.length : Int) = ((x.1.toNat % T.D.length : Nat) : Int) := by rw [Int.tmod_eq_emod_of_nonneg (by omega)]; omega
    have hk : x.1.toNat % T.D.length < T.D.length := Nat.mod_lt _ (by omega)
    generalize x.1.toNat % T.D.length = kk at *
    repeat' (first | simp only [evr, nextP_norm, evd, evq, beq_self_eq_true, cond_true, cond_false, reduceIte, Nat.reduceEqDiff, Nat.reduceAdd, Int.reduceBNe, Int.reduceBEq, Int.reduceLT, Int.reduceLE, Int.reduceEq, evh, evp, Nat.reduceLeDiff, Nat.reduceSub, Nat.reduceBEq, typs, r0, r3, r4, r5, r6, r7, r8, la, e3, a1, a2, a3, ia0, cv, wc, ld, evBin_rem (b := (T.D.length : Int)) (by omega), rr] | refine kCond2_by (fun hc => ?_) (fun hc => ?_) <;> try simp only [hc] | refine kPick_by (fun hc => ?_) (fun hc => ?_) <;> try simp only [hc] | refine kWant_by (fun hc => ?_) (fun hc => ?_) <;> try simp only [hc])
    obtain ⟨m1, m2, m3, m4, m5, m6⟩ := nm_num i (by omega)
    have st := str_two ((48 + i / 10 : Nat) : Int) ((48 + i % 10 : Nat) : Int) H
    have cat : ∀ xo yo, evBin kon.P .add 9 xo yo (.string ⟨#[110]⟩) (.string ⟨#[UInt8.ofNat (48 + i / 10), UInt8.ofNat (48 + i % 10)]⟩) = some (.string (nmD i)) := fun xo yo => by
      rw [evBin_addS (by show ((1 : Nat) : Int) + ((2 : Nat) : Int) ≤ 9223372036854775807; decide)]
      congr 1
    repeat' (first | simp only [evr, nextP_norm, evd, evq, beq_self_eq_true, cond_true, cond_false, reduceIte, Nat.reduceEqDiff, Nat.reduceAdd, Int.reduceBNe, Int.reduceBEq, Int.reduceLT, Int.reduceLE, Int.reduceEq, evh, evp, Nat.reduceLeDiff, Nat.reduceSub, Nat.reduceBEq, typs, r0, r3, r4, r5, r6, r7, r8, evBin_quo (b := 10) (by decide), evBin_rem (b := 10) (by decide), m1, m2, m3, m4, m5, m6, cw, st, cat] | refine kCond2_by (fun hc => ?_) (fun hc => ?_) <;> try simp only [hc] | refine kPick_by (fun hc => ?_) (fun hc => ?_) <;> try simp only [hc] | refine kWant_by (fun hc => ?_) (fun hc => ?_) <;> try simp only [hc])
    generalize hh : Hp.push H _ = HA
    have kA : Keep H HA := by rw [← hh]; exact Keep.push _ _
    clear hh st
    have pH : pb < H.next := Nat.lt_of_lt_of_le pz w.k.1
    have w := w.keeps kA
    have a2 := (kA.row pH).trans a2
    obtain ⟨mm, han⟩ : ∃ mm, ∀ xo yo, evBin kon.P .and 5 xo yo (.int .u8 x.2.toNat) (.int .u8 3) = some (.int .u8 mm) := ⟨_, fun xo yo => by rw [evBin_int]; rfl⟩
    have S0 := w.s 0 _ rfl
    have S1 := w.s 1 _ rfl
    have S2 := w.s 2 _ rfl
    have S3 := w.s 3 _ rfl
    simp only at S0 S1 S2 S3
    have wi : IntKind.i64.wrap ((i : Int) + 1) = ((i + 1 : Nat) : Int) := by rw [wrap64 (by omega) (by omega)]; omega
    obtain ⟨b0, x0, y0, row0, z0, _⟩ := zs_at S0 (rng_at hk)
    obtain ⟨g, hg⟩ : ∃ g, gone[kk]? = some g := ⟨_, List.getElem?_eq_getElem (by rw [td.ng]; exact hk)⟩
    obtain ⟨b3, x3, y3, row3, z3, wr3⟩ := bs_at S3 hg
    obtain ⟨ct, hct⟩ : ∃ g, ins[kk]? = some g := ⟨_, List.getElem?_eq_getElem (by rw [td.ni]; exact hk)⟩
    have hctZ : (insZ ins)[kk]? = some (ct : Int) := by unfold insZ; simp [hct]
    obtain ⟨b1, x1, y1, row1, z1, wr1⟩ := zs_at S1 hctZ
    obtain ⟨u, hu⟩ : ∃ g, up[kk]? = some g := ⟨_, List.getElem?_eq_getElem (by rw [td.nu]; exact hk)⟩
    obtain ⟨b2, x2, y2, row2, z2, _⟩ := zs_at S2 hu
    by_cases hq : mm = 0
    · have f2 : (mm != 0) = false := by simp [hq]
      by_cases hun : u < 0
      · have f3 : decide (u < 0) = true := decide_eq_true hun
        repeat' (first | simp only [evr, nextP_norm, evd, evq, beq_self_eq_true, cond_true, cond_false, reduceIte, Nat.reduceEqDiff, Nat.reduceAdd, Int.reduceBNe, Int.reduceBEq, Int.reduceLT, Int.reduceLE, Int.reduceEq, evh, evp, Nat.reduceLeDiff, Nat.reduceSub, Nat.reduceBEq, typs, r0, r3, r4, r5, r6, r7, r8, a1, a2, a4, ia1, han, f2, x2, row2, z2, f3, wi] | refine kCond2_by (fun hc => ?_) (fun hc => ?_) <;> try simp only [hc] | refine kPick_by (fun hc => ?_) (fun hc => ?_) <;> try simp only [hc] | refine kWant_by (fun hc => ?_) (fun hc => ?_) <;> try simp only [hc])
        exact ⟨l.length - (i + 1), by omega, i + 1, v4, v5, v6, v7, rfl, by omega, ⟨c, T, ins, up, gone, w, td.next⟩, rfl, rfl, rfl, rfl, rfl⟩
      have f3 : decide (u < 0) = false := decide_eq_false hun
      cases g with
      | true =>
        repeat' (first | simp only [evr, nextP_norm, evd, evq, beq_self_eq_true, cond_true, cond_false, reduceIte, Nat.reduceEqDiff, Nat.reduceAdd, Int.reduceBNe, Int.reduceBEq, Int.reduceLT, Int.reduceLE, Int.reduceEq, evh, evp, Nat.reduceLeDiff, Nat.reduceSub, Nat.reduceBEq, typs, r0, r3, r4, r5, r6, r7, r8, a1, a2, a4, ia1, han, f2, x2, row2, z2, f3, x3, row3, z3, wi] | refine kCond2_by (fun hc => ?_) (fun hc => ?_) <;> try simp only [hc] | refine kPick_by (fun hc => ?_) (fun hc => ?_) <;> try simp only [hc] | refine kWant_by (fun hc => ?_) (fun hc => ?_) <;> try simp only [hc])
        exact ⟨l.length - (i + 1), by omega, i + 1, v4, v5, v6, v7, rfl, by omega, ⟨c, T, ins, up, gone, w, td.next⟩, rfl, rfl, rfl, rfl, rfl⟩
      | false =>
        obtain ⟨a, rfl, ha⟩ : ∃ a : Nat, u = a ∧ a < T.D.length := by
          rcases td.ups kk u hu with h | h
          · exact absurd h hun
          · exact h
        obtain ⟨b0', x0', y0', row0', z0', _⟩ := zs_at S0 (rng_at ha)
        repeat' (first | simp only [evr, nextP_norm, evd, evq, beq_self_eq_true, cond_true, cond_false, reduceIte, Nat.reduceEqDiff, Nat.reduceAdd, Int.reduceBNe, Int.reduceBEq, Int.reduceLT, Int.reduceLE, Int.reduceEq, evh, evp, Nat.reduceLeDiff, Nat.reduceSub, Nat.reduceBEq, typs, r0, r3, r4, r5, r6, r7, r8, a1, a2, a4, ia1, han, f2, x2, row2, z2, f3, x3, row3, z3, x0', row0', z0'] | refine kCond2_by (fun hc => ?_) (fun hc => ?_) <;> try simp only [hc] | refine kPick_by (fun hc => ?_) (fun hc => ?_) <;> try simp only [hc] | refine kWant_by (fun hc => ?_) (fun hc => ?_) <;> try simp only [hc])
        have nms := tNames_spec w.t (Nat.le_trans td.few.1 (by omega)) (a : Int)
        unfold ptrV at nms
        refine callP_meets nms ?_
        rintro vn HN ⟨kN, sn⟩
        have nm0 : Nm HN c vn (sortedN T a) := ⟨SlTy.slAt sn, fun b o k cp e => by
          rcases sn with ⟨rfl, _⟩ | ⟨b', o', k', c', all, st, h1, _, hb, _⟩
          · cases e
          · rw [h1] at e
            cases e
            rcases Nat.eq_zero_or_pos (c b) with h0 | h0
            · exact h0
            · have := w.lt b (by omega); omega⟩
        have wN := w.keeps kN
        have nsl : (sortedN T (a : Int)).length ≤ 1000 := by
          rw [sortedN_lenD]
          have := Hi.count_le T (a : Int)
          have := td.few.1
          omega
        generalize sortedN T a = ns at nm0 nsl
        repeat' (first | simp only [evr, nextP_norm, evd, evq, beq_self_eq_true, cond_true, cond_false, reduceIte, Nat.reduceEqDiff, Nat.reduceAdd, Int.reduceBNe, Int.reduceBEq, Int.reduceLT, Int.reduceLE, Int.reduceEq, evh, evp, Nat.reduceLeDiff, Nat.reduceSub, Nat.reduceBEq, typs, r0, r3, r4, r5, r6, r7, r8] | refine kCond2_by (fun hc => ?_) (fun hc => ?_) <;> try simp only [hc] | refine kPick_by (fun hc => ?_) (fun hc => ?_) <;> try simp only [hc] | refine kWant_by (fun hc => ?_) (fun hc => ?_) <;> try simp only [hc])
        refine Wp_loop (fun k fr H' => ∃ (j : Nat) (c : Nat → Nat) (T' : Hi) (ins : List Nat) (gone : List Bool), k = ns.length - j ∧ j ≤ ns.length ∧ T'.D.length = T.D.length ∧ WD h H' c T' bt [(v4, 3, zs (rng T.D.length)), (v5, 3, zs (insZ ins)), (v6, 3, zs up), (v7, 4, bs gone)] ∧ TdI T' ins up gone i ∧ Nm H' c vn ns ∧
          fr.get 0 = some v ∧ fr.get 3 = some (.pointer (some ⟨bt, 0, none⟩)) ∧ fr.get 4 = some v4 ∧ fr.get 5 = some v5 ∧ fr.get 6 = some v6 ∧ fr.get 7 = some v7 ∧ fr.get 8 = some (.int .i64 i) ∧ fr.get 9 = some (.int .i64 kk) ∧ fr.get 13 = some vn ∧ fr.get 14 = some (.int .i64 j)) ns.length ⟨0, c, T, ins, gone, rfl, Nat.zero_le _, rfl, wN, td, nm0, ?_, ?_, ?_, ?_, ?_, ?_, ?_, ?_, ?_, ?_⟩ ?_
        · repeat' (first | simp only [evr, nextP_norm, evd, evq, beq_self_eq_true, cond_true, cond_false, reduceIte, Nat.reduceEqDiff, Nat.reduceAdd, Int.reduceBNe, Int.reduceBEq, Int.reduceLT, Int.reduceLE, Int.reduceEq, evh, evp, Nat.reduceLeDiff, Nat.reduceSub, Nat.reduceBEq, typs, r0] | refine kCond2_by (fun hc => ?_) (fun hc => ?_) <;> try simp only [hc] | refine kPick_by (fun hc => ?_) (fun hc => ?_) <;> try simp only [hc] | refine kWant_by (fun hc => ?_) (fun hc => ?_) <;> try simp only [hc])
        · repeat' (first | simp only [evr, nextP_norm, evd, evq, beq_self_eq_true, cond_true, cond_false, reduceIte, Nat.reduceEqDiff, Nat.reduceAdd, Int.reduceBNe, Int.reduceBEq, Int.reduceLT, Int.reduceLE, Int.reduceEq, evh, evp, Nat.reduceLeDiff, Nat.reduceSub, Nat.reduceBEq, typs, r3] | refine kCond2_by (fun hc => ?_) (fun hc => ?_) <;> try simp only [hc] | refine kPick_by (fun hc => ?_) (fun hc => ?_) <;> try simp only [hc] | refine kWant_by (fun hc => ?_) (fun hc => ?_) <;> try simp only [hc])
        · repeat' (first | simp only [evr, nextP_norm, evd, evq, beq_self_eq_true, cond_true, cond_false, reduceIte, Nat.reduceEqDiff, Nat.reduceAdd, Int.reduceBNe, Int.reduceBEq, Int.reduceLT, Int.reduceLE, Int.reduceEq, evh, evp, Nat.reduceLeDiff, Nat.reduceSub, Nat.reduceBEq, typs, r4] | refine kCond2_by (fun hc => ?_) (fun hc => ?_) <;> try simp only [hc] | refine kPick_by (fun hc => ?_) (fun hc => ?_) <;> try simp only [hc] | refine kWant_by (fun hc => ?_) (fun hc => ?_) <;> try simp only [hc])
        · repeat' (first | simp only [evr, nextP_norm, evd, evq, beq_self_eq_true, cond_true, cond_false, reduceIte, Nat.reduceEqDiff, Nat.reduceAdd, Int.reduceBNe, Int.reduceBEq, Int.reduceLT, Int.reduceLE, Int.reduceEq, evh, evp, Nat.reduceLeDiff, Nat.reduceSub, Nat.reduceBEq, typs, r5] | refine kCond2_by (fun hc => ?_) (fun hc => ?_) <;> try simp only [hc] | refine kPick_by (fun hc => ?_) (fun hc => ?_) <;> try simp only [hc] | refine kWant_by (fun hc => ?_) (fun hc => ?_) <;> try simp only [hc])
        · repeat' (first | simp only [evr, nextP_norm, evd, evq, beq_self_eq_true, cond_true, cond_false, reduceIte, Nat.reduceEqDiff, Nat.reduceAdd, Int.reduceBNe, Int.reduceBEq, Int.reduceLT, Int.reduceLE, Int.reduceEq, evh, evp, Nat.reduceLeDiff, Nat.reduceSub, Nat.reduceBEq, typs, r6] | refine kCond2_by (fun hc => ?_) (fun hc => ?_) <;> try simp only [hc] | refine kPick_by (fun hc => ?_) (fun hc => ?_) <;> try simp only [hc] | refine kWant_by (fun hc => ?_) (fun hc => ?_) <;> try simp only [hc])
        · repeat' (first | simp only [evr, nextP_norm, evd, evq, beq_self_eq_true, cond_true, cond_false, reduceIte, Nat.reduceEqDiff, Nat.reduceAdd, Int.reduceBNe, Int.reduceBEq, Int.reduceLT, Int.reduceLE, Int.reduceEq, evh, evp, Nat.reduceLeDiff, Nat.reduceSub, Nat.reduceBEq, typs, r7] | refine kCond2_by (fun hc => ?_) (fun hc => ?_) <;> try simp only [hc] | refine kPick_by (fun hc => ?_) (fun hc => ?_) <;> try simp only [hc] | refine kWant_by (fun hc => ?_) (fun hc => ?_) <;> try simp only [hc])
        · repeat' (first | simp only [evr, nextP_norm, evd, evq, beq_self_eq_true, cond_true, cond_false, reduceIte, Nat.reduceEqDiff, Nat.reduceAdd, Int.reduceBNe, Int.reduceBEq, Int.reduceLT, Int.reduceLE, Int.reduceEq, evh, evp, Nat.reduceLeDiff, Nat.reduceSub, Nat.reduceBEq, typs, r8] | refine kCond2_by (fun hc => ?_) (fun hc => ?_) <;> try simp only [hc] | refine kPick_by (fun hc => ?_) (fun hc => ?_) <;> try simp only [hc] | refine kWant_by (fun hc => ?_) (fun hc => ?_) <;> try simp only [hc])
        · repeat' (first | simp only [evr, nextP_norm, evd, evq, beq_self_eq_true, cond_true, cond_false, reduceIte, Nat.reduceEqDiff, Nat.reduceAdd, Int.reduceBNe, Int.reduceBEq, Int.reduceLT, Int.reduceLE, Int.reduceEq, evh, evp, Nat.reduceLeDiff, Nat.reduceSub, Nat.reduceBEq, typs] | refine kCond2_by (fun hc => ?_) (fun hc => ?_) <;> try simp only [hc] | refine kPick_by (fun hc => ?_) (fun hc => ?_) <;> try simp only [hc] | refine kWant_by (fun hc => ?_) (fun hc => ?_) <;> try simp only [hc])
        · repeat' (first | simp only [evr, nextP_norm, evd, evq, beq_self_eq_true, cond_true, cond_false, reduceIte, Nat.reduceEqDiff, Nat.reduceAdd, Int.reduceBNe, Int.reduceBEq, Int.reduceLT, Int.reduceLE, Int.reduceEq, evh, evp, Nat.reduceLeDiff, Nat.reduceSub, Nat.reduceBEq, typs] | refine kCond2_by (fun hc => ?_) (fun hc => ?_) <;> try simp only [hc] | refine kPick_by (fun hc => ?_) (fun hc => ?_) <;> try simp only [hc] | refine kWant_by (fun hc => ?_) (fun hc => ?_) <;> try simp only [hc])
        · repeat' (first | simp only [evr, nextP_norm, evd, evq, beq_self_eq_true, cond_true, cond_false, reduceIte, Nat.reduceEqDiff, Nat.reduceAdd, Int.reduceBNe, Int.reduceBEq, Int.reduceLT, Int.reduceLE, Int.reduceEq, evh, evp, Nat.reduceLeDiff, Nat.reduceSub, Nat.reduceBEq, typs] | refine kCond2_by (fun hc => ?_) (fun hc => ?_) <;> try simp only [hc] | refine kPick_by (fun hc => ?_) (fun hc => ?_) <;> try simp only [hc] | refine kWant_by (fun hc => ?_) (fun hc => ?_) <;> try simp only [hc])
          rfl
        have hdl' := td.dl
        have hu' := hu
        clear r0 r3 r4 r5 r6 r7 r8 nm0 wN w td S0 S1 S2 S3
        rintro k fr1 HI ⟨j, c, T', ins, gone, rfl, hj, hlen, w, td, nm, r0, r3, r4, r5, r6, r7, r8, r9, r13, r14⟩
        have ln := StrSl.len nm.s
        by_cases h5 : ¬ j < ns.length
        · have e5 : decide ((j : Int) < (ns.length : Int)) = false := decide_eq_false (by omega)
          repeat' (first | simp only [evr, nextP_norm, evd, evq, beq_self_eq_true, cond_true, cond_false, reduceIte, Nat.reduceEqDiff, Nat.reduceAdd, Int.reduceBNe, Int.reduceBEq, Int.reduceLT, Int.reduceLE, Int.reduceEq, evh, evp, Nat.reduceLeDiff, Nat.reduceSub, Nat.reduceBEq, typs, r0, r3, r4, r5, r6, r7, r8, r9, r13, r14, ln, e5, wi] | refine kCond2_by (fun hc => ?_) (fun hc => ?_) <;> try simp only [hc] | refine kPick_by (fun hc => ?_) (fun hc => ?_) <;> try simp only [hc] | refine kWant_by (fun hc => ?_) (fun hc => ?_) <;> try simp only [hc])
          exact ⟨l.length - (i + 1), by omega, i + 1, v4, v5, v6, v7, rfl, by omega, ⟨c, T', ins, up, gone, by rw [hlen]; exact w, td.next⟩, rfl, rfl, rfl, rfl, rfl⟩
        have h5 := Decidable.not_not.1 h5
        have e5 : decide ((j : Int) < (ns.length : Int)) = true := decide_eq_true (by omega)
        have wj : IntKind.i64.wrap ((j : Int) + 1) = ((j + 1 : Nat) : Int) := by
          rw [wrap64 (by omega) (by omega)]; omega
        obtain ⟨b0, x0, y0, row0, z0, _⟩ := zs_at (w.s 0 _ rfl) (rng_at hk)
        obtain ⟨ba, xa, ya, rowa, za, _⟩ := zs_at (w.s 0 _ rfl) (rng_at ha)
        obtain ⟨b2, x2, y2, row2, z2, _⟩ := zs_at (w.s 2 _ rfl) hu
        obtain ⟨bn, on, alln, xn, ltn, rown, zn, _, _, _, hvn⟩ := StrSl.at2' nm.s (List.getElem?_eq_getElem h5)
        have lt0 := (w.s 0 _ rfl).lt y0
        have lta := (w.s 0 _ rfl).lt ya
        have lt2 := (w.s 2 _ rfl).lt y2
        generalize ns[j] = sj at *
        repeat' (first | simp only [evr, nextP_norm, evd, evq, beq_self_eq_true, cond_true, cond_false, reduceIte, Nat.reduceEqDiff, Nat.reduceAdd, Int.reduceBNe, Int.reduceBEq, Int.reduceLT, Int.reduceLE, Int.reduceEq, evh, evp, Nat.reduceLeDiff, Nat.reduceSub, Nat.reduceBEq, typs, r0, r3, r4, r5, r6, r7, r8, r9, r13, r14, ln, e5] | refine kCond2_by (fun hc => ?_) (fun hc => ?_) <;> try simp only [hc] | refine kPick_by (fun hc => ?_) (fun hc => ?_) <;> try simp only [hc] | refine kWant_by (fun hc => ?_) (fun hc => ?_) <;> try simp only [hc])
        refine Wp_drawE [0, 0, 0, 0, 0, 1, 0, 1, 0, 0, 0, 1, 4, 0, 0, 0, 2, 4, 0] (KR.mk (by kernel_rfl)) ?_
        repeat' (first | simp only [evr, nextP_norm, evd, evq, beq_self_eq_true, cond_true, cond_false, reduceIte, Nat.reduceEqDiff, Nat.reduceAdd, Int.reduceBNe, Int.reduceBEq, Int.reduceLT, Int.reduceLE, Int.reduceEq, evh, evp, Nat.reduceLeDiff, Nat.reduceSub, Nat.reduceBEq, typs, r0, r3, r4, r5, r6, r7, r8, r9, r13, r14, x2, row2, z2, xa, rowa, za, xn, rown, zn] | refine kCond2_by (fun hc => ?_) (fun hc => ?_) <;> try simp only [hc] | refine kPick_by (fun hc => ?_) (fun hc => ?_) <;> try simp only [hc] | refine kWant_by (fun hc => ?_) (fun hc => ?_) <;> try simp only [hc])
        have lk := tLook_spec w.t (a : Int) sj
        unfold ptrV at lk
        refine callP_meets lk ?_
        rintro _ HL ⟨kL, hv⟩
        have wL := w.keeps kL
        have nmL := nm.keeps kL
        have nL := kL.1
        have row2L := (kL.row lt2).trans row2
        have rowaL := (kL.row lta).trans rowa
        have rownL := (kL.row ltn).trans rown
        have dne2 : (b2 = HL.next) = False := eq_false (by omega)
        have dnea : (ba = HL.next) = False := eq_false (by omega)
        have dnen : (bn = HL.next) = False := eq_false (by omega)
        cases hl : T'.look a sj with
        | none =>
          rw [hl] at hv
          simp only at hv
          subst hv
          unfold noneV
          simp only [evr, evd, evq, beq_self_eq_true, cond_true, cond_false, reduceIte, Nat.reduceEqDiff, Nat.reduceAdd, Int.reduceBNe, Int.reduceBEq, Int.reduceLT, Int.reduceLE, Int.reduceEq, evh, evp, Nat.reduceLeDiff, Nat.reduceSub, Nat.reduceBEq, typs, r0, r3, r4, r5, r6, r7, r8, r9, r13, r14, x2, row2, z2, xa, rowa, za, xn, rown, zn, row2L, rowaL, rownL, dne2, dnea, dnen, if_false]
          rw [nextP_norm]
          generalize hh : Hp.set _ _ _ = HM
          have kM : Keep HL HM := by rw [← hh]; exact (Keep.push _ _).set (Nat.le_refl _)
          clear hh
          repeat' (first | simp only [evr, nextP_norm, evd, evq, beq_self_eq_true, cond_true, cond_false, reduceIte, Nat.reduceEqDiff, Nat.reduceAdd, Int.reduceBNe, Int.reduceBEq, Int.reduceLT, Int.reduceLE, Int.reduceEq, evh, evp, Nat.reduceLeDiff, Nat.reduceSub, Nat.reduceBEq, typs, r0, r3, r4, r5, r6, r7, r8, r9, r13, r14] | refine kCond2_by (fun hc => ?_) (fun hc => ?_) <;> try simp only [hc] | refine kPick_by (fun hc => ?_) (fun hc => ?_) <;> try simp only [hc] | refine kWant_by (fun hc => ?_) (fun hc => ?_) <;> try simp only [hc])
          refine Wp_drawE [0, 0, 0, 0, 1, 0, 0, 0, 1, 0, 0] (KR.mk (by kernel_rfl)) ?_
          repeat' (first | simp only [evr, nextP_norm, evd, evq, beq_self_eq_true, cond_true, cond_false, reduceIte, Nat.reduceEqDiff, Nat.reduceAdd, Int.reduceBNe, Int.reduceBEq, Int.reduceLT, Int.reduceLE, Int.reduceEq, evh, evp, Nat.reduceLeDiff, Nat.reduceSub, Nat.reduceBEq, typs, r0, r3, r4, r5, r6, r7, r8, r9, r13, r14, wj] | refine kCond2_by (fun hc => ?_) (fun hc => ?_) <;> try simp only [hc] | refine kPick_by (fun hc => ?_) (fun hc => ?_) <;> try simp only [hc] | refine kWant_by (fun hc => ?_) (fun hc => ?_) <;> try simp only [hc])
          exact ⟨ns.length - (j + 1), by omega, j + 1, c, T', ins, gone, rfl, by omega, hlen, (w.keeps kL).keeps kM, td, (nm.keeps kL).keeps kM, rfl⟩
        | some b =>
          rw [hl] at hv
          simp only at hv
          obtain ⟨sl, rfl, ty⟩ := hv
          obtain ⟨y1', y2'⟩ := TmTyc ty
          unfold outV bnC
          simp only [evr, evd, evq, beq_self_eq_true, cond_true, cond_false, reduceIte, Nat.reduceEqDiff, Nat.reduceAdd, Int.reduceBNe, Int.reduceBEq, Int.reduceLT, Int.reduceLE, Int.reduceEq, evh, evp, Nat.reduceLeDiff, Nat.reduceSub, Nat.reduceBEq, typs, r0, r3, r4, r5, r6, r7, r8, r9, r13, r14, x2, row2, z2, xa, rowa, za, xn, rown, zn, row2L, rowaL, rownL, dne2, dnea, dnen, if_false, y1', y2']
          rw [nextP_norm]
          generalize hh : Hp.set _ _ _ = HM
          have kM : Keep HL HM := by rw [← hh]; exact (Keep.push _ _).set (Nat.le_refl _)
          have gM : HM.get HL.next = some (.row (bnC b sl) 45 (.rw 0 [])) := by rw [← hh]; exact Hp.get_set_self _ _ _
          clear hh
          have kLM := kL.trans kM
          have wM := w.keeps kLM
          have nmM := nm.keeps kLM
          have qM := rowOf_rw gM
          unfold bnC at qM
          have row0M := (kLM.row lt0).trans row0
          have row2M := (kLM.row lt2).trans row2
          have rowaM := (kLM.row lta).trans rowa
          have rownM := (kLM.row ltn).trans rown
          repeat' (first | simp only [evr, nextP_norm, evd, evq, beq_self_eq_true, cond_true, cond_false, reduceIte, Nat.reduceEqDiff, Nat.reduceAdd, Int.reduceBNe, Int.reduceBEq, Int.reduceLT, Int.reduceLE, Int.reduceEq, evh, evp, Nat.reduceLeDiff, Nat.reduceSub, Nat.reduceBEq, typs, r0, r3, r4, r5, r6, r7, r8, r9, r13, r14] | refine kCond2_by (fun hc => ?_) (fun hc => ?_) <;> try simp only [hc] | refine kPick_by (fun hc => ?_) (fun hc => ?_) <;> try simp only [hc] | refine kWant_by (fun hc => ?_) (fun hc => ?_) <;> try simp only [hc])
          refine Wp_drawE [0, 0, 0, 0, 1, 0, 0, 0, 1, 0, 0] (KR.mk (by kernel_rfl)) ?_
          by_cases hbd : ¬ b.dir = kk
          · have f4 : (b.dir != (kk : Int)) = true := by simp [hbd]
            repeat' (first | simp only [evr, nextP_norm, evd, evq, beq_self_eq_true, cond_true, cond_false, reduceIte, Nat.reduceEqDiff, Nat.reduceAdd, Int.reduceBNe, Int.reduceBEq, Int.reduceLT, Int.reduceLE, Int.reduceEq, evh, evp, Nat.reduceLeDiff, Nat.reduceSub, Nat.reduceBEq, typs, r0, r3, r4, r5, r6, r7, r8, r9, r13, r14, qM, x0, row0M, z0, f4, wj] | refine kCond2_by (fun hc => ?_) (fun hc => ?_) <;> try simp only [hc] | refine kPick_by (fun hc => ?_) (fun hc => ?_) <;> try simp only [hc] | refine kWant_by (fun hc => ?_) (fun hc => ?_) <;> try simp only [hc])
            exact ⟨ns.length - (j + 1), by omega, j + 1, c, T', ins, gone, rfl, by omega, hlen, wM, td, nmM, rfl⟩
          have hbd := Decidable.not_not.1 hbd
          have f4 : (b.dir != (kk : Int)) = false := by simp [hbd]
          repeat' (first | simp only [evr, nextP_norm, evd, evq, beq_self_eq_true, cond_true, cond_false, reduceIte, Nat.reduceEqDiff, Nat.reduceAdd, Int.reduceBNe, Int.reduceBEq, Int.reduceLT, Int.reduceLE, Int.reduceEq, evh, evp, Nat.reduceLeDiff, Nat.reduceSub, Nat.reduceBEq, typs, r0, r3, r4, r5, r6, r7, r8, r9, r13, r14, qM, x0, row0M, z0, f4] | refine kCond2_by (fun hc => ?_) (fun hc => ?_) <;> try simp only [hc] | refine kPick_by (fun hc => ?_) (fun hc => ?_) <;> try simp only [hc] | refine kWant_by (fun hc => ?_) (fun hc => ?_) <;> try simp only [hc])
          refine Wp_drawE [0, 0, 0, 0, 0, 1, 0, 1, 0, 0, 0, 1, 4, 0, 0, 0, 2, 4, 0] (KR.mk (by kernel_rfl)) ?_
          repeat' (first | simp only [evr, nextP_norm, evd, evq, beq_self_eq_true, cond_true, cond_false, reduceIte, Nat.reduceEqDiff, Nat.reduceAdd, Int.reduceBNe, Int.reduceBEq, Int.reduceLT, Int.reduceLE, Int.reduceEq, evh, evp, Nat.reduceLeDiff, Nat.reduceSub, Nat.reduceBEq, typs, r0, r3, r4, r5, r6, r7, r8, r9, r13, r14, x2, row2M, z2, xa, rowaM, za, xn, rownM, zn] | refine kCond2_by (fun hc => ?_) (fun hc => ?_) <;> try simp only [hc] | refine kPick_by (fun hc => ?_) (fun hc => ?_) <;> try simp only [hc] | refine kWant_by (fun hc => ?_) (fun hc => ?_) <;> try simp only [hc])
          have dl := tDelete_spec wM.t (Nat.le_trans td.few.1 (by omega)) (a : Int) sj
          unfold ptrV at dl
          refine callP_meets dl ?_
          rintro _ HD ⟨⟨sD, rfl, tyD⟩, FD, tD, uD⟩
          obtain ⟨cD, wD, eD⟩ := wM.tree uD tD
          have nmD' := nmM.step uD.next eD
          obtain ⟨q1, q2⟩ := TmTyc tyD
          obtain ⟨ct, hct⟩ : ∃ g, ins[kk]? = some g := ⟨_, List.getElem?_eq_getElem (by rw [td.ni, hlen]; exact hk)⟩
          obtain ⟨ya', hya⟩ : ∃ g, ins[a]? = some g := ⟨_, List.getElem?_eq_getElem (by rw [td.ni, hlen]; exact ha)⟩
          have hctZ : (insZ ins)[kk]? = some (ct : Int) := by unfold insZ; simp [hct]
          have hyaZ : (insZ ins)[a]? = some (ya' : Int) := by unfold insZ; simp [hya]
          have del := td_del td hl hbd hu hct hya
          have hgk : ∃ g, gone[kk]? = some g := ⟨_, List.getElem?_eq_getElem (by rw [td.ng, hlen]; exact hk)⟩
          obtain ⟨g, hgk⟩ := hgk
          have same : ∀ b, b < HM.next → c b ≠ 1 → rowOf HD b = rowOf HM b := fun b hb hc => by unfold rowOf; rw [uD.same b hb hc]
          have nM := kLM.1
          have y2c : c b2 = 4 := y2
          have yac : c ba = 2 := ya
          have row2D := (same b2 (by omega) (by omega)).trans row2M
          have rowaD := (same ba (by omega) (by omega)).trans rowaM
          have rownD := (same bn (by omega) (by have := nm.z _ _ _ _ hvn; omega)).trans rownM
          have nD := uD.next
          have dne2 : (b2 = HD.next) = False := eq_false (by omega)
          have dnea : (ba = HD.next) = False := eq_false (by omega)
          have dnen : (bn = HD.next) = False := eq_false (by omega)
          have bo : ∀ (xo yo : Operand) (a b : Bool), evBin kon.P .neq 4 xo yo (.bool a) (.bool b) = some (.bool (a != b)) := fun xo yo a b => by cases a <;> cases b <;> kernel_rfl
          unfold bnC
          simp only [evr, evd, evq, beq_self_eq_true, cond_true, cond_false, reduceIte, Nat.reduceEqDiff, Nat.reduceAdd, Int.reduceBNe, Int.reduceBEq, Int.reduceLT, Int.reduceLE, Int.reduceEq, evh, evp, Nat.reduceLeDiff, Nat.reduceSub, Nat.reduceBEq, typs, r0, r3, r4, r5, r6, r7, r8, r9, r13, r14, x2, row2M, z2, xa, rowaM, za, xn, rownM, zn, row2D, rowaD, rownD, dne2, dnea, dnen, if_false, q1, q2]
          rw [nextP_norm]
          generalize hh : Hp.set _ _ _ = HX
          have kX : Keep HD HX := by rw [← hh]; exact (Keep.push _ _).set (Nat.le_refl _)
          clear hh
          have wX := wD.keeps kX
          have nmX := nmD'.keeps kX
          obtain ⟨b1, x1, y1, row1, z1, _⟩ := zs_at (wX.s 1 _ rfl) hctZ
          by_cases hc0 : ct = 0
          · rw [if_pos hc0] at del
            obtain ⟨de, dy, td'⟩ := del
            have f5 : ((T'.delete (a : Int) sj).2.2 == 0) = true := by simp [de]
            have f6 : ((ct : Int) == 0) = true := by simp [hc0]
            obtain ⟨b3, x3, y3, row3, z3, wr3⟩ := bs_at (wX.s 3 _ rfl) hgk
            obtain ⟨HY, wY, nY, sY, gY⟩ := wr3 true
            obtain ⟨cY, wY', eY⟩ := wX.slice (i := 3) (x' := (v7, 4, bs (gone.set kk true))) rfl gY (fun b hb => .inl hb) (Nat.le_of_eq nY.symm) fun b _ hb => sY b hb
            have nmY := nmX.step (Nat.le_of_eq nY.symm) eY
            obtain ⟨b2y, x2y, y2y, row2y, z2y, _⟩ := zs_at (wY'.s 2 _ rfl) hu
            obtain ⟨b1y, x1y, y1y, row1y, z1y, wr1y⟩ := zs_at (wY'.s 1 _ rfl) hyaZ
            obtain ⟨HZ, wZ, nZ, sZ, gZ⟩ := wr1y ((ya' : Int) - 1)
            obtain ⟨cZ, wZ', eZ⟩ := wY'.slice (i := 1) (x' := (v5, 3, zs ((insZ ins).set a ((ya' : Int) - 1)))) rfl gZ (fun b hb => .inl hb) (Nat.le_of_eq nZ.symm) fun b _ hb => sZ b hb
            have nmZ := nmY.step (Nat.le_of_eq nZ.symm) eZ
            have wy : IntKind.i64.wrap ((ya' : Int) - 1) = (ya' : Int) - 1 := by
              have h1 := td.cnt a ya' hya
              have h2 := Hi.count_le T' (a : Int)
              have h3 := td.few.1
              rw [wrap64 (by omega) (by omega)]
            repeat' (first | simp only [evr, nextP_norm, evd, evq, beq_self_eq_true, cond_true, cond_false, reduceIte, Nat.reduceEqDiff, Nat.reduceAdd, Int.reduceBNe, Int.reduceBEq, Int.reduceLT, Int.reduceLE, Int.reduceEq, evh, evp, Nat.reduceLeDiff, Nat.reduceSub, Nat.reduceBEq, typs, r0, r3, r4, r5, r6, r7, r8, r9, r13, r14, x1, row1, z1, f5, f6, bo, bne_self_eq_false, x3, wY, x2y, row2y, z2y, x1y, row1y, z1y, wy, wZ, wj] | refine kCond2_by (fun hc => ?_) (fun hc => ?_) <;> try simp only [hc] | refine kPick_by (fun hc => ?_) (fun hc => ?_) <;> try simp only [hc] | refine kWant_by (fun hc => ?_) (fun hc => ?_) <;> try simp only [hc])
            have q3 : (insZ ins).set a ((ya' : Int) - 1) = insZ (ins.set a (ya' - 1)) := by
              unfold insZ
              rw [List.map_set]
              congr 1
              omega
            have q4 : (T'.delete (a : Int) sj).1.D.length = T.D.length := by
              rw [← td'.ng, List.length_set, td.ng, hlen]
            exact ⟨ns.length - (j + 1), by omega, j + 1, cZ, (T'.delete (a : Int) sj).1, ins.set a (ya' - 1), gone.set kk true, rfl, by omega, q4, by rw [← q3]; exact wZ', td', nmZ, rfl⟩
          · rw [if_neg hc0] at del
            obtain ⟨dT, de⟩ := del
            have f5 : ((T'.delete (a : Int) sj).2.2 == 0) = false := by simp [de]
            have f6 : ((ct : Int) == 0) = false := by simp; omega
            rw [dT] at wX
            repeat' (first | simp only [evr, nextP_norm, evd, evq, beq_self_eq_true, cond_true, cond_false, reduceIte, Nat.reduceEqDiff, Nat.reduceAdd, Int.reduceBNe, Int.reduceBEq, Int.reduceLT, Int.reduceLE, Int.reduceEq, evh, evp, Nat.reduceLeDiff, Nat.reduceSub, Nat.reduceBEq, typs, r0, r3, r4, r5, r6, r7, r8, r9, r13, r14, x1, row1, z1, f5, f6, bo, bne_self_eq_false, wj] | refine kCond2_by (fun hc => ?_) (fun hc => ?_) <;> try simp only [hc] | refine kPick_by (fun hc => ?_) (fun hc => ?_) <;> try simp only [hc] | refine kWant_by (fun hc => ?_) (fun hc => ?_) <;> try simp only [hc])
            exact ⟨ns.length - (j + 1), by omega, j + 1, cD, T', ins, gone, rfl, by omega, hlen, wX, td, nmX, rfl⟩
    · have f2 : (mm != 0) = true := by simp [hq]
      repeat' (first | simp only [evr, nextP_norm, evd, evq, beq_self_eq_true, cond_true, cond_false, reduceIte, Nat.reduceEqDiff, Nat.reduceAdd, Int.reduceBNe, Int.reduceBEq, Int.reduceLT, Int.reduceLE, Int.reduceEq, evh, evp, Nat.reduceLeDiff, Nat.reduceSub, Nat.reduceBEq, typs, r0, r3, r4, r5, r6, r7, r8, a1, a2, a4, ia1, han, f2, x0, row0, z0] | refine kCond2_by (fun hc => ?_) (fun hc => ?_) <;> try simp only [hc] | refine kPick_by (fun hc => ?_) (fun hc => ?_) <;> try simp only [hc] | refine kWant_by (fun hc => ?_) (fun hc => ?_) <;> try simp only [hc])
      have ad := tAdd_spec w.t (Nat.le_trans td.few.1 (by omega)) (Nat.le_trans td.few.2 (by omega)) (b := dirB) (sl := .slice none 0 0) (.inl ⟨rfl, rfl⟩) (by decide) (kk : Int) (nmD i)
      unfold ptrV at ad
      refine callP_meets (args := [.pointer (some ⟨bt, 0, none⟩), .int .i64 (kk : Int), .string (nmD i), .agg #[.int .i64 2, .int .i64 0, .int .i64 0, .string ByteArray.empty, .bool false, .slice none 0 0, .int .i64 0, .int .i64 0, .int .i64 0, .int .i64 0]]) ad ?_
      rintro _ HB ⟨rfl, F', t', u'⟩
      obtain ⟨c', w', _⟩ := w.tree u' t'
      have bo : ∀ (xo yo : Operand) (a b : Bool), evBin kon.P .neq 4 xo yo (.bool a) (.bool b) = some (.bool (a != b)) := fun xo yo a b => by cases a <;> cases b <;> kernel_rfl
      cases g with
      | true =>
        rw [td_no td hg] at w' ⊢
        obtain ⟨b3, x3, y3, row3, z3, _⟩ := bs_at (w'.s 3 _ rfl) hg
        repeat' (first | simp only [evr, nextP_norm, evd, evq, beq_self_eq_true, cond_true, cond_false, reduceIte, Nat.reduceEqDiff, Nat.reduceAdd, Int.reduceBNe, Int.reduceBEq, Int.reduceLT, Int.reduceLE, Int.reduceEq, evh, evp, Nat.reduceLeDiff, Nat.reduceSub, Nat.reduceBEq, typs, r0, r3, r4, r5, r6, r7, r8, x3, row3, z3, bo, bne_self_eq_false, wi] | refine kCond2_by (fun hc => ?_) (fun hc => ?_) <;> try simp only [hc] | refine kPick_by (fun hc => ?_) (fun hc => ?_) <;> try simp only [hc] | refine kWant_by (fun hc => ?_) (fun hc => ?_) <;> try simp only [hc])
        exact ⟨l.length - (i + 1), by omega, i + 1, v4, v5, v6, v7, rfl, by omega, ⟨c', T, ins, up, gone, w', td.next⟩, rfl, rfl, rfl, rfl, rfl⟩
      | false =>
        obtain ⟨q1, td'⟩ := td_add td (by omega) hg hct
        rw [q1]
        generalize hT' : (T.add (kk : Int) (nmD i) dirB).1 = T' at *
        obtain ⟨b3, x3, y3, row3, z3, _⟩ := bs_at (w'.s 3 _ rfl) hg
        obtain ⟨b1, x1, y1, row1, z1, wr1⟩ := zs_at (w'.s 1 _ rfl) hctZ
        obtain ⟨HC, wC, nC, sC, gC⟩ := wr1 ((ct : Int) + 1)
        obtain ⟨c3, w3, _⟩ := w'.slice (i := 1) (x' := (v5, 3, zs ((insZ ins).set kk ((ct : Int) + 1)))) rfl gC (fun b hb => .inl hb) (Nat.le_of_eq nC.symm) fun b _ hb => sC b hb
        have hlen : ins.length ≤ 1000 := by rw [td.ni]; omega
        have wct : IntKind.i64.wrap ((ct : Int) + 1) = (ct : Int) + 1 := by
          have h1 := td.cnt kk ct hct
          have h2 := Hi.count_le T (kk : Int)
          have h3 := td.few.1
          rw [wrap64 (by omega) (by omega)]
        have w4 := w3.keeps (Keep.push HC (.row [.int .i64 (T.D.length : Int)] 3 (.rw 0 [])))
        obtain ⟨u4, HD, e4, g4, n4, s4⟩ := app_zs (w4.s 0 _ rfl) (by rw [rng_len]; omega) (rowOf_rw (Hp.get_push_self HC _))
        obtain ⟨c5, w5, _⟩ := w4.slice (i := 0) (x' := (u4, 3, _)) rfl g4 (fun b hb => hb) n4 fun b h1 h2 => s4 b h1 h2
        have w6 := w5.keeps (Keep.push HD (.row [.int .i64 0] 3 (.rw 0 [])))
        obtain ⟨u5, HE, e5, g5, n5, s5⟩ := app_zs (w6.s 1 _ rfl) (by rw [List.length_set]; unfold insZ; rw [List.length_map]; omega) (rowOf_rw (Hp.get_push_self HD _))
        obtain ⟨c7, w7, _⟩ := w6.slice (i := 1) (x' := (u5, 3, _)) rfl g5 (fun b hb => hb) n5 fun b h1 h2 => s5 b h1 h2
        have w8 := w7.keeps (Keep.push HE (.row [.int .i64 (kk : Int)] 3 (.rw 0 [])))
        obtain ⟨u6, HF, e6, g6, n6, s6⟩ := app_zs (w8.s 2 _ rfl) (by rw [td.nu]; omega) (rowOf_rw (Hp.get_push_self HE _))
        obtain ⟨c9, w9, _⟩ := w8.slice (i := 2) (x' := (u6, 3, _)) rfl g6 (fun b hb => hb) n6 fun b h1 h2 => s6 b h1 h2
        have w10 := w9.keeps (Keep.push HF (.row [.bool false] 4 (.rw 0 [])))
        obtain ⟨u7, HG, e7, g7, n7, s7⟩ := app_bs (w10.s 3 _ rfl) (by rw [td.ng]; omega) (rowOf_rw (Hp.get_push_self HF _))
        obtain ⟨c11, w11, _⟩ := w10.slice (i := 3) (x' := (u7, 4, _)) rfl g7 (fun b hb => hb) n7 fun b h1 h2 => s7 b h1 h2
        repeat' (first | simp only [evr, nextP_norm, evd, evq, beq_self_eq_true, cond_true, cond_false, reduceIte, Nat.reduceEqDiff, Nat.reduceAdd, Int.reduceBNe, Int.reduceBEq, Int.reduceLT, Int.reduceLE, Int.reduceEq, evh, evp, Nat.reduceLeDiff, Nat.reduceSub, Nat.reduceBEq, typs, r0, r3, r4, r5, r6, r7, r8, x3, row3, z3, bo, bne_self_eq_false, x1, row1, z1, wct, wC, e4, e5, e6, e7, wi] | refine kCond2_by (fun hc => ?_) (fun hc => ?_) <;> try simp only [hc] | refine kPick_by (fun hc => ?_) (fun hc => ?_) <;> try simp only [hc] | refine kWant_by (fun hc => ?_) (fun hc => ?_) <;> try simp only [hc])
        refine ⟨l.length - (i + 1), by omega, i + 1, u4, u5, u6, u7, rfl, by omega, ⟨c11, T', _, _, _, ?_, td'⟩, rfl, rfl, rfl, rfl, rfl⟩
        have q2 : rng T'.D.length = rng T.D.length ++ [(T.D.length : Int)] := by
          have := td'.ng
          rw [List.length_append, td.ng] at this
          rw [← this]; exact rng_succ _
        have q3 : insZ (ins.set kk (ct + 1) ++ [0]) = (insZ ins).set kk ((ct : Int) + 1) ++ [0] := by unfold insZ; simp [List.map_set]
        rw [q2, q3]
        exact w11
  · have e3 : decide ((i : Int) < (l.length : Int)) = false := decide_eq_false (by omega)
    repeat' (first | simp only [evr, nextP_norm, evd, evq, beq_self_eq_true, cond_true, cond_false, reduceIte, Nat.reduceEqDiff, Nat.reduceAdd, Int.reduceBNe, Int.reduceBEq, Int.reduceLT, Int.reduceLE, Int.reduceEq, evh, evp, Nat.reduceLeDiff, Nat.reduceSub, Nat.reduceBEq, typs, r0, r3, r4, r5, r6, r7, r8, la, e3] | refine kCond2_by (fun hc => ?_) (fun hc => ?_) <;> try simp only [hc] | refine kPick_by (fun hc => ?_) (fun hc => ?_) <;> try simp only [hc] | refine kWant_by (fun hc => ?_) (fun hc => ?_) <;> try simp only [hc])
    refine Wp_loop (fun k fr H' => ∃ j : Nat, k = T.D.length - j ∧ j ≤ T.D.length ∧ H' = H ∧ fr.get 3 = some (.pointer (some ⟨bt, 0, none⟩)) ∧ fr.get 4 = some v4 ∧ fr.get 5 = some v5 ∧ fr.get 7 = some v7 ∧ fr.get 19 = some (.int .i64 j)) T.D.length ⟨0, rfl, Nat.zero_le _, rfl, ?_, ?_, ?_, ?_, ?_⟩ ?_
    · repeat' (first | simp only [evr, nextP_norm, evd, evq, beq_self_eq_true, cond_true, cond_false, reduceIte, Nat.reduceEqDiff, Nat.reduceAdd, Int.reduceBNe, Int.reduceBEq, Int.reduceLT, Int.reduceLE, Int.reduceEq, evh, evp, Nat.reduceLeDiff, Nat.reduceSub, Nat.reduceBEq, typs, r3] | refine kCond2_by (fun hc => ?_) (fun hc => ?_) <;> try simp only [hc] | refine kPick_by (fun hc => ?_) (fun hc => ?_) <;> try simp only [hc] | refine kWant_by (fun hc => ?_) (fun hc => ?_) <;> try simp only [hc])
    · repeat' (first | simp only [evr, nextP_norm, evd, evq, beq_self_eq_true, cond_true, cond_false, reduceIte, Nat.reduceEqDiff, Nat.reduceAdd, Int.reduceBNe, Int.reduceBEq, Int.reduceLT, Int.reduceLE, Int.reduceEq, evh, evp, Nat.reduceLeDiff, Nat.reduceSub, Nat.reduceBEq, typs, r4] | refine kCond2_by (fun hc => ?_) (fun hc => ?_) <;> try simp only [hc] | refine kPick_by (fun hc => ?_) (fun hc => ?_) <;> try simp only [hc] | refine kWant_by (fun hc => ?_) (fun hc => ?_) <;> try simp only [hc])
    · repeat' (first | simp only [evr, nextP_norm, evd, evq, beq_self_eq_true, cond_true, cond_false, reduceIte, Nat.reduceEqDiff, Nat.reduceAdd, Int.reduceBNe, Int.reduceBEq, Int.reduceLT, Int.reduceLE, Int.reduceEq, evh, evp, Nat.reduceLeDiff, Nat.reduceSub, Nat.reduceBEq, typs, r5] | refine kCond2_by (fun hc => ?_) (fun hc => ?_) <;> try simp only [hc] | refine kPick_by (fun hc => ?_) (fun hc => ?_) <;> try simp only [hc] | refine kWant_by (fun hc => ?_) (fun hc => ?_) <;> try simp only [hc])
    · repeat' (first | simp only [evr, nextP_norm, evd, evq, beq_self_eq_true, cond_true, cond_false, reduceIte, Nat.reduceEqDiff, Nat.reduceAdd, Int.reduceBNe, Int.reduceBEq, Int.reduceLT, Int.reduceLE, Int.reduceEq, evh, evp, Nat.reduceLeDiff, Nat.reduceSub, Nat.reduceBEq, typs, r7] | refine kCond2_by (fun hc => ?_) (fun hc => ?_) <;> try simp only [hc] | refine kPick_by (fun hc => ?_) (fun hc => ?_) <;> try simp only [hc] | refine kWant_by (fun hc => ?_) (fun hc => ?_) <;> try simp only [hc])
    · repeat' (first | simp only [evr, nextP_norm, evd, evq, beq_self_eq_true, cond_true, cond_false, reduceIte, Nat.reduceEqDiff, Nat.reduceAdd, Int.reduceBNe, Int.reduceBEq, Int.reduceLT, Int.reduceLE, Int.reduceEq, evh, evp, Nat.reduceLeDiff, Nat.reduceSub, Nat.reduceBEq, typs] | refine kCond2_by (fun hc => ?_) (fun hc => ?_) <;> try simp only [hc] | refine kPick_by (fun hc => ?_) (fun hc => ?_) <;> try simp only [hc] | refine kWant_by (fun hc => ?_) (fun hc => ?_) <;> try simp only [hc])
      rfl
    clear r0 r3 r4 r5 r6 r7 r8
    rintro k fr1 H1 ⟨j, rfl, hj, hH, r3, r4, r5, r7, r19⟩
    rw [hH]
    clear hH
    by_cases h5 : ¬ j < T.D.length
    · have e5 : decide ((j : Int) < (T.D.length : Int)) = false := decide_eq_false (by omega)
      repeat' (first | simp only [evr, nextP_norm, evd, evq, beq_self_eq_true, cond_true, cond_false, reduceIte, Nat.reduceEqDiff, Nat.reduceAdd, Int.reduceBNe, Int.reduceBEq, Int.reduceLT, Int.reduceLE, Int.reduceEq, evh, evp, Nat.reduceLeDiff, Nat.reduceSub, Nat.reduceBEq, typs, r3, r4, r5, r7, r19, ld, e5] | refine kCond2_by (fun hc => ?_) (fun hc => ?_) <;> try simp only [hc] | refine kPick_by (fun hc => ?_) (fun hc => ?_) <;> try simp only [hc] | refine kWant_by (fun hc => ?_) (fun hc => ?_) <;> try simp only [hc])
    have hk := Decidable.not_not.1 h5
    have e5 : decide ((j : Int) < (T.D.length : Int)) = true := decide_eq_true (by omega)
    have wj : IntKind.i64.wrap ((j : Int) + 1) = ((j + 1 : Nat) : Int) := by rw [wrap64 (by omega) (by omega)]; omega
    obtain ⟨b0, x0, y0, row0, z0, _⟩ := zs_at S0 (rng_at hk)
    obtain ⟨g, hg⟩ : ∃ g, gone[j]? = some g := ⟨_, List.getElem?_eq_getElem (by rw [td.ng]; exact hk)⟩
    obtain ⟨b3, x3, y3, row3, z3, _⟩ := bs_at S3 hg
    obtain ⟨ct, hct⟩ : ∃ g, ins[j]? = some g := ⟨_, List.getElem?_eq_getElem (by rw [td.ni]; exact hk)⟩
    have hctZ : (insZ ins)[j]? = some (ct : Int) := by unfold insZ; simp [hct]
    obtain ⟨b1, x1, y1, row1, z1, _⟩ := zs_at S1 hctZ
    have his := td.is j g hg
    have hcn := td.cnt j ct hct
    have ln := (tLen_spec w.t (j : Int)).call
    unfold ptrV at ln
    repeat' (first | simp only [evr, nextP_norm, evd, evq, beq_self_eq_true, cond_true, cond_false, reduceIte, Nat.reduceEqDiff, Nat.reduceAdd, Int.reduceBNe, Int.reduceBEq, Int.reduceLT, Int.reduceLE, Int.reduceEq, evh, evp, Nat.reduceLeDiff, Nat.reduceSub, Nat.reduceBEq, typs, r3, r4, r5, r7, r19, ld, e5] | refine kCond2_by (fun hc => ?_) (fun hc => ?_) <;> try simp only [hc] | refine kPick_by (fun hc => ?_) (fun hc => ?_) <;> try simp only [hc] | refine kWant_by (fun hc => ?_) (fun hc => ?_) <;> try simp only [hc])
    refine Wp_drawE [0, 0, 0, 1, 0, 0, 0, 0, 0, 1, 4, 0, 0, 0, 0, 0, 0, 1, 0, 0, 0, 0, 0, 0, 1, 3, 0, 0, 0, 1, 0, 0, 0] (KR.mk (by kernel_rfl)) ?_
    cases g with
    | true =>
      rw [his, if_neg (by simp)] at ln
      repeat' (first | simp only [evr, nextP_norm, evd, evq, beq_self_eq_true, cond_true, cond_false, reduceIte, Nat.reduceEqDiff, Nat.reduceAdd, Int.reduceBNe, Int.reduceBEq, Int.reduceLT, Int.reduceLE, Int.reduceEq, evh, evp, Nat.reduceLeDiff, Nat.reduceSub, Nat.reduceBEq, typs, r3, r4, r5, r7, r19, x0, row0, z0, x1, row1, z1, x3, row3, z3, ln, bne_self_eq_false, wj] | refine kCond2_by (fun hc => ?_) (fun hc => ?_) <;> try simp only [hc] | refine kPick_by (fun hc => ?_) (fun hc => ?_) <;> try simp only [hc] | refine kWant_by (fun hc => ?_) (fun hc => ?_) <;> try simp only [hc])
      exact ⟨T.D.length - (j + 1), by omega, j + 1, rfl, by omega, rfl⟩
    | false =>
      rw [his, if_pos (by simp), ← hcn] at ln
      repeat' (first | simp only [evr, nextP_norm, evd, evq, beq_self_eq_true, cond_true, cond_false, reduceIte, Nat.reduceEqDiff, Nat.reduceAdd, Int.reduceBNe, Int.reduceBEq, Int.reduceLT, Int.reduceLE, Int.reduceEq, evh, evp, Nat.reduceLeDiff, Nat.reduceSub, Nat.reduceBEq, typs, r3, r4, r5, r7, r19, x0, row0, z0, x1, row1, z1, x3, row3, z3, ln, bne_self_eq_false, wj] | refine kCond2_by (fun hc => ?_) (fun hc => ?_) <;> try simp only [hc] | refine kPick_by (fun hc => ?_) (fun hc => ?_) <;> try simp only [hc] | refine kWant_by (fun hc => ?_) (fun hc => ?_) <;> try simp only [hc])
      exact ⟨T.D.length - (j + 1), by omega, j + 1, rfl, by omega, rfl⟩
theorem rdPr {W : World} {cs : List Value} (r : RdT Tryd.prog W 102 cs) : ∃ p : UInt8 × UInt8, cs = prC p := by
  obtain ⟨h1, h2⟩ := r.array Tryd.underlying102
  have c1 : Tryd.prog.cellsOf 5 = 1 := by kernel_rfl
  have c2 : Tryd.prog.cellsOf 102 = 2 := by kernel_rfl
  rw [c2] at h1
  rw [c1] at h2
  match cs, h1, h2 with
  | [x, y], _, h2 =>
    have rx : RdT Tryd.prog W 5 [x] := h2 0 (by decide)
    have ry : RdT Tryd.prog W 5 [y] := h2 1 (by decide)
    obtain ⟨n, e1, w1⟩ := rx.int Tryd.underlying5
    obtain ⟨m, e2, w2⟩ := ry.int Tryd.underlying5
    obtain ⟨a, rfl⟩ := u8_of w1
    obtain ⟨b, rfl⟩ := u8_of w2
    cases e1; cases e2
    exact ⟨(a, b), rfl⟩
theorem prs_of {cs' : List Value} {xs : List (UInt8 × UInt8)} (hl : cs'.length = xs.length * 2) (h : ∀ (i : Nat) (x : UInt8 × UInt8), xs[i]? = some x → (cs'.drop (i * 2)).take 2 = prC x) : cs' = (xs.map prC).flatten := by
  induction xs generalizing cs' with
  | nil => have : cs'.length = 0 := by simpa using hl
           exact List.length_eq_zero_iff.1 this
  | cons a xs ih =>
    have h0 := h 0 a rfl
    rw [Nat.zero_mul, List.drop_zero] at h0
    have e : cs' = prC a ++ cs'.drop 2 := by rw [← h0, List.take_append_drop]
    have e2 : cs'.drop 2 = (xs.map prC).flatten := by
      refine ih (by rw [List.length_drop, hl, List.length_cons]; omega) fun i x hi => ?_
      have := h (i + 1) x (by simpa using hi)
      rw [List.drop_drop, ← this]; congr 2; omega
    rw [e, e2]; rfl
theorem treeDirs_law (W : World) (h : W.ShapedOpen Tryd.prog) {base : Nat} {v0 : Value} (o0 : Value.okWide Tryd.prog W .any base 100 v0) (r0 : RdT Tryd.prog W 100 v0.cells.toList) :
    Calls Tryd.prog 18 #[v0] W fun e w' => e = .returned (.bool true) ∧ Go.RowKit.Below W.heap.size W w' := by
  obtain ⟨a, len, cap, rfl⟩ := Go.WideShapes.okWide_slice Tryd.underlying100 o0
  obtain ⟨v, v', xs, cs', hv, _, hva, hsl, hlen, hR⟩ := sl_in (α := UInt8 × UInt8) (n := 2) (fun x l => l = prC x) (P := Tryd.prog) (W := W) (e := 102) (by kernel_rfl) (by omega)
    (fun l h => by obtain ⟨x, rfl⟩ := rdPr h; exact ⟨x, prC x, rfl, rfl⟩) (by obtain ⟨m, h⟩ := maxLen h; exact ⟨_, h⟩) Tryd.underlying100 r0
  have hcs := prs_of hlen hR
  subst hcs
  have hv1 : v = .slice a len cap := by
    have : (Value.slice a len cap).cells.toList = [.slice a len cap] := rfl
    rw [this] at hv; simpa using hv.symm
  subst hv1
  exact open_call (kon_from h) kon_mix (args := [_]) (abs := [v']) (by show ((absC W.heap.size (.slice a len cap)).bind _) = _; rw [hva]; rfl) (treeDirs_true hsl)
end Go.Proofs.YtncmgiddcefpcaaDoor
