/- Texts joined: what the claim needs of them. No condition. -/
import Derived.Shelf.Small.Bits
import Derived.Shelf.Small.Strs
import Derived.Shelf.Utf8.RuneCount
import Derived.Shelf.Strconv.Itoa0
import Derived.Shelf.Strings.Search1
import Derived.Shelf.Strings.Search2
import Derived.Shelf.Strings.Search3
import Derived.Shelf.Strings.Count
import Derived.Shelf.LaysM
import Derived.Shelf.Strings.Shaped
import Derived.Shelf.Strings.Split
import Derived.Shelf.Strings.SplitShaped
import Derived.Shelf.Unicode.Decode
import Derived.Shelf.Strings.RuneCount
import Derived.Shelf.Strings.Explode
import Derived.Shelf.Unicode.DecodeSlow
import Derived.Shelf.Unicode.DecodeAny
import Derived.Ground.SlsfProg
import Derived.Shelf.SlSortCmp.Insertion
import Derived.Shelf.SlSortCmp.SiftDown1
import Derived.Shelf.SlSortCmp.HeapSort1
import Derived.Shelf.SlSortCmp.Insertion1
import Derived.Shelf.SlSortCmp.Median1
import Derived.Shelf.SlSortCmp.Pivot1
import Derived.Shelf.SlSortCmp.ReverseRange1
import Derived.Shelf.SlSortCmp.PartialInsertion1
import Derived.Shelf.SlSortCmp.PartitionEqual1
import Derived.Shelf.SlSortCmp.Partition1
import Derived.Shelf.SlSortCmp.Pdq1
import Derived.Shelf.SlSortCmp.Whole1
import Derived.Shelf.SlSortCmp.NoneTotal
import Derived.Test.YtncmgiddcefpcaaGreatDoorProg
import Derived.Test.YtncmgiddcefpcaaGreatDoorBin11
import Derived.Test.YtncmgiddcefpcaaGreatDoorBin4
import Derived.Test.YtncmgiddcefpcaaGreatDoorEvM3
import Derived.Test.YtncmgiddcefpcaaGreatDoorBin6
import Derived.Test.YtncmgiddcefpcaaGreatDoorBin10
import Derived.Test.YtncmgiddcefpcaaGreatDoorRows
import Derived.JoinedOf
import Derived.SevenTiedAt
namespace Go.Proofs
open Go.Shelf
def Tryz.lays213_ren : Go.Shelf.Ren := ⟨fun | 213 => 116 | 265 => 130 | n => n, fun | 9 => 9 | 3 => 3 | n => n, fun | n => n⟩
def Tryz.lays106_ren : Go.Shelf.Ren := ⟨fun | 106 => 110 | 213 => 116 | 265 => 130 | n => n, fun | 9 => 9 | 3 => 3 | n => n, fun | n => n⟩
theorem Tryz.lays106 : Go.Proofs.Lays.n106 Tryz.prog Tryz.lays106_ren := {
  mixed := by kernel_rfl
  f106 := Tryz.func110.trans (congrArg some (by kernel_rfl))
  f213 := Tryz.func116.trans (congrArg some (by kernel_rfl))
  f265 := Tryz.func130.trans (congrArg some (by kernel_rfl))
  t3 := Tryz.underlying3
  a3 := Tryz.isAgg3
  z3 := Tryz.sizeOf3
  v3 := Tryz.zeroValue3
  t9 := Tryz.underlying9
  a9 := Tryz.isAgg9
  z9 := Tryz.sizeOf9
  v9 := Tryz.zeroValue9 }
open Go.RowKit in
theorem Tryz.strings_Compare (a b : ByteArray) (w : World) :
    Calls Tryz.prog 110 #[.string a, .string b] w fun e w' => e = .returned (.int .i64 (Lib.compareBytes a.data.toList b.data.toList)) ∧ w' = w := Any.strings_Compare Tryz.lays106 a b w
def Tryz.lays221_ren : Go.Shelf.Ren := ⟨fun | 221 => 115 | 268 => 127 | 138 => 128 | 143 => 129 | 195 => 136 | 197 => 137 | 218 => 138 | 219 => 139 | 260 => 141 | 217 => 142 | 225 => 143 | 224 => 144 | 267 => 145 | 266 => 146 | 314 => 147 | n => n, fun | 9 => 9 | 3 => 3 | 31 => 46 | 4 => 4 | 0 => 0 | 105 => 189 | 21 => 21 | 5 => 5 | 46 => 168 | 119 => 194 | 139 => 197 | 138 => 196 | 146 => 198 | 51 => 178 | n => n, fun | 1 => 0 | 3 => 1 | 4 => 2 | n => n⟩
def Tryz.lays146_ren : Go.Shelf.Ren := ⟨fun | 146 => 106 | 221 => 115 | 268 => 127 | 138 => 128 | 143 => 129 | 195 => 136 | 197 => 137 | 218 => 138 | 219 => 139 | 260 => 141 | 217 => 142 | 225 => 143 | 224 => 144 | 267 => 145 | 266 => 146 | 314 => 147 | n => n, fun | 9 => 9 | 31 => 46 | 3 => 3 | 4 => 4 | 0 => 0 | 105 => 189 | 21 => 21 | 5 => 5 | 46 => 168 | 119 => 194 | 139 => 197 | 138 => 196 | 146 => 198 | 51 => 178 | n => n, fun | 1 => 0 | 3 => 1 | 4 => 2 | n => n⟩
theorem Tryz.lays146 : Go.Proofs.Lays.n146 Tryz.prog Tryz.lays146_ren := {
  mixed := by kernel_rfl
  f138 := Tryz.func128.trans (congrArg some (by kernel_rfl))
  f143 := Tryz.func129.trans (congrArg some (by kernel_rfl))
  f146 := Tryz.func106.trans (congrArg some (by kernel_rfl))
  f195 := Tryz.func136.trans (congrArg some (by kernel_rfl))
  f197 := Tryz.func137.trans (congrArg some (by kernel_rfl))
  f217 := Tryz.func142.trans (congrArg some (by kernel_rfl))
  f218 := Tryz.func138.trans (congrArg some (by kernel_rfl))
  f219 := Tryz.func139.trans (congrArg some (by kernel_rfl))
  f221 := Tryz.func115.trans (congrArg some (by kernel_rfl))
  f224 := Tryz.func144.trans (congrArg some (by kernel_rfl))
  f225 := Tryz.func143.trans (congrArg some (by kernel_rfl))
  f260 := Tryz.func141.trans (congrArg some (by kernel_rfl))
  f266 := Tryz.func146.trans (congrArg some (by kernel_rfl))
  f267 := Tryz.func145.trans (congrArg some (by kernel_rfl))
  f268 := Tryz.func127.trans (congrArg some (by kernel_rfl))
  f314 := Tryz.func147.trans (congrArg some (by kernel_rfl))
  t0 := Tryz.underlying0
  a0 := Tryz.isAgg0
  z0 := Tryz.sizeOf0
  v0 := Tryz.zeroValue0
  t3 := Tryz.underlying3
  a3 := Tryz.isAgg3
  z3 := Tryz.sizeOf3
  v3 := Tryz.zeroValue3
  t4 := Tryz.underlying4
  a4 := Tryz.isAgg4
  z4 := Tryz.sizeOf4
  v4 := Tryz.zeroValue4
  t5 := Tryz.underlying5
  a5 := Tryz.isAgg5
  z5 := Tryz.sizeOf5
  v5 := Tryz.zeroValue5
  t9 := Tryz.underlying9
  a9 := Tryz.isAgg9
  z9 := Tryz.sizeOf9
  v9 := Tryz.zeroValue9
  t21 := Tryz.underlying21
  a21 := Tryz.isAgg21
  z21 := Tryz.sizeOf21
  v21 := Tryz.zeroValue21
  t31 := Tryz.underlying46
  a31 := Tryz.isAgg46
  z31 := Tryz.sizeOf46
  v31 := Tryz.zeroValue46
  t46 := Tryz.underlying168
  a46 := Tryz.isAgg168
  z46 := Tryz.sizeOf168
  v46 := Tryz.zeroValue168
  t51 := Tryz.underlying178
  a51 := Tryz.isAgg178
  z51 := Tryz.sizeOf178
  v51 := Tryz.zeroValue178
  t105 := Tryz.underlying189
  a105 := Tryz.isAgg189
  z105 := Tryz.sizeOf189
  v105 := Tryz.zeroValue189
  t119 := Tryz.underlying194
  a119 := Tryz.isAgg194
  z119 := Tryz.sizeOf194
  t138 := Tryz.underlying196
  a138 := Tryz.isAgg196
  z138 := Tryz.sizeOf196
  v138 := Tryz.zeroValue196
  t139 := Tryz.underlying197
  a139 := Tryz.isAgg197
  z139 := Tryz.sizeOf197
  v139 := Tryz.zeroValue197
  t146 := Tryz.underlying198
  a146 := Tryz.isAgg198
  z146 := Tryz.sizeOf198
  v146 := Tryz.zeroValue198
  g1 := by kernel_rfl
  g3 := by kernel_rfl
  g4 := by kernel_rfl }
open Go.RowKit Go.Lib in
theorem Tryz.strings_Split (s sep : ByteArray) (m : Int) (w : World) (hs : s.size < 4294967281) (hm : w.cell? ⟨0, 0, none⟩ = some (.int .i64 m)) (h1 : 1 ≤ sep.size) :
    Calls Tryz.prog 106 #[.string s, .string sep] w fun e w' =>
      e = .returned (.slice (some ⟨w.heap.size, 0, none⟩) (Lib.countB s sep + 1) (Lib.countB s sep + 1)) ∧ w' = w.alloc (.cells ((Lib.splitB sep 0 (Lib.countB s sep) s).map Value.string).toArray 9) := Any.strings_Split Tryz.lays146 (by kernel_rfl) s sep m w hs hm h1
def Tryz.laysSlF6_f100_ren : Go.Shelf.Ren := ⟨fun | 6 => 100 | 15 => 112 | 14 => 111 | 28 => 125 | 29 => 126 | 20 => 117 | 21 => 118 | 22 => 119 | 23 => 120 | 24 => 121 | 25 => 122 | 26 => 123 | 27 => 124 | 46 => 131 | 47 => 132 | 48 => 133 | 49 => 134 | 50 => 135 | 57 => 140 | n => n, fun | 22 => 46 | 24 => 9 | 25 => 162 | 3 => 3 | 39 => 168 | 0 => 0 | 53 => 178 | 55 => 180 | 4 => 4 | 46 => 172 | 45 => 171 | 50 => 66 | 5 => 5 | 9 => 9 | 66 => 182 | 70 => 186 | 76 => 192 | 77 => 48 | n => n, fun | n => n⟩
theorem Tryz.laysSlF6_f100 : Go.Proofs.SlLaysF.n6 Tryz.prog Tryz.laysSlF6_f100_ren := {
  mixed := by kernel_rfl
  f6 := ⟨Tryz.f100.name, by decide, Tryz.func100.trans (congrArg some (by kernel_rfl))⟩
  f14 := ⟨Tryz.f111.name, by decide, Tryz.func111.trans (congrArg some (by kernel_rfl))⟩
  f15 := Tryz.func112.trans (congrArg some (by kernel_rfl))
  f20 := ⟨Tryz.f117.name, by decide, Tryz.func117.trans (congrArg some (by kernel_rfl))⟩
  f21 := ⟨Tryz.f118.name, by decide, Tryz.func118.trans (congrArg some (by kernel_rfl))⟩
  f22 := ⟨Tryz.f119.name, by decide, Tryz.func119.trans (congrArg some (by kernel_rfl))⟩
  f23 := ⟨Tryz.f120.name, by decide, Tryz.func120.trans (congrArg some (by kernel_rfl))⟩
  f24 := ⟨Tryz.f121.name, by decide, Tryz.func121.trans (congrArg some (by kernel_rfl))⟩
  f25 := ⟨Tryz.f122.name, by decide, Tryz.func122.trans (congrArg some (by kernel_rfl))⟩
  f26 := ⟨Tryz.f123.name, by decide, Tryz.func123.trans (congrArg some (by kernel_rfl))⟩
  f27 := ⟨Tryz.f124.name, by decide, Tryz.func124.trans (congrArg some (by kernel_rfl))⟩
  f28 := Tryz.func125.trans (congrArg some (by kernel_rfl))
  f29 := Tryz.func126.trans (congrArg some (by kernel_rfl))
  f46 := ⟨Tryz.f131.name, by decide, Tryz.func131.trans (congrArg some (by kernel_rfl))⟩
  f47 := Tryz.func132.trans (congrArg some (by kernel_rfl))
  f48 := Tryz.func133.trans (congrArg some (by kernel_rfl))
  f49 := ⟨Tryz.f134.name, by decide, Tryz.func134.trans (congrArg some (by kernel_rfl))⟩
  f50 := ⟨Tryz.f135.name, by decide, Tryz.func135.trans (congrArg some (by kernel_rfl))⟩
  f57 := ⟨Tryz.f140.name, by decide, Tryz.func140.trans (congrArg some (by kernel_rfl))⟩
  t0 := Tryz.underlying0
  a0 := Tryz.isAgg0
  z0 := Tryz.sizeOf0
  v0 := Tryz.zeroValue0
  t3 := Tryz.underlying3
  a3 := Tryz.isAgg3
  z3 := Tryz.sizeOf3
  v3 := Tryz.zeroValue3
  t4 := Tryz.underlying4
  a4 := Tryz.isAgg4
  z4 := Tryz.sizeOf4
  v4 := Tryz.zeroValue4
  t5 := Tryz.underlying5
  a5 := Tryz.isAgg5
  z5 := Tryz.sizeOf5
  v5 := Tryz.zeroValue5
  t9 := Tryz.underlying9
  a9 := Tryz.isAgg9
  z9 := Tryz.sizeOf9
  v9 := Tryz.zeroValue9
  t22 := Tryz.underlying46
  a22 := Tryz.isAgg46
  z22 := Tryz.sizeOf46
  v22 := Tryz.zeroValue46
  a24 := Tryz.isAgg9
  z24 := Tryz.sizeOf9
  t25 := Tryz.underlying162
  a25 := Tryz.isAgg162
  z25 := Tryz.sizeOf162
  v25 := Tryz.zeroValue162
  t39 := Tryz.underlying168
  a39 := Tryz.isAgg168
  z39 := Tryz.sizeOf168
  v39 := Tryz.zeroValue168
  t45 := Tryz.underlying171
  a45 := Tryz.isAgg171
  z45 := Tryz.sizeOf171
  v45 := Tryz.zeroValue171
  t46 := Tryz.underlying172
  a46 := Tryz.isAgg172
  z46 := Tryz.sizeOf172
  v46 := Tryz.zeroValue172
  t50 := Tryz.underlying66
  a50 := Tryz.isAgg66
  z50 := Tryz.sizeOf66
  v50 := Tryz.zeroValue66
  t53 := Tryz.underlying178
  a53 := Tryz.isAgg178
  z53 := Tryz.sizeOf178
  v53 := Tryz.zeroValue178
  t55 := Tryz.underlying180
  a55 := Tryz.isAgg180
  z55 := Tryz.sizeOf180
  v55 := Tryz.zeroValue180
  t66 := Tryz.underlying182
  a66 := Tryz.isAgg182
  z66 := Tryz.sizeOf182
  v66 := Tryz.zeroValue182
  t70 := Tryz.underlying186
  a70 := Tryz.isAgg186
  z70 := Tryz.sizeOf186
  v70 := Tryz.zeroValue186
  t76 := Tryz.underlying192
  a76 := Tryz.isAgg192
  z76 := Tryz.sizeOf192
  v76 := Tryz.zeroValue192
  t77 := Tryz.underlying48
  a77 := Tryz.isAgg48
  z77 := Tryz.sizeOf48
  v77 := Tryz.zeroValue48 }
open Go.RowKit Go.Lib Go.Sort in
theorem Tryz.slices_SortFunc {α : Type} [Inhabited α] (enc : α → Value) (h1 : OneCell enc) (cf : α → α → Int) (hO : SWO (ltOf cf)) (g : Nat) (cb : Array Value) (blk off cap : Nat) (d : Array α) (w : World) (eg : ∀ args w, (callFunc g args).run Tryz.prog w = .ok (.enter g args) w) (hcmp : CmpLays1 Tryz.prog g cb enc cf blk off d.size w) (hH : Holds enc w blk off d) (hblk : blk < w.heap.size) (hsz : d.size < 4611686018427387904) :
    Calls Tryz.prog 100 #[.slice (some ⟨blk, off, none⟩) d.size cap, .func (.func g) #[] cb] w fun e w' =>
      e = .returned (.tuple #[]) ∧ ∃ d' n os, PermIn 0 d.size d d' ∧ SortedIn (ltOf cf) 0 d.size d' ∧ w' = sortWorld enc w blk off n d' os := Any.slices_SortFunc Tryz.laysSlF6_f100 enc h1 cf hO g cb blk off cap d w eg hcmp hH hblk hsz
def Tryz.laysSlF06_f100_ren : Go.Shelf.Ren := ⟨fun | 6 => 100 | 15 => 112 | 14 => 111 | 28 => 125 | 29 => 126 | 20 => 117 | 21 => 118 | 22 => 119 | 23 => 120 | 24 => 121 | 25 => 122 | 26 => 123 | 27 => 124 | 46 => 131 | 47 => 132 | 48 => 133 | 49 => 134 | 50 => 135 | 57 => 140 | n => n, fun | 22 => 46 | 24 => 9 | 25 => 162 | 3 => 3 | 39 => 168 | 0 => 0 | 53 => 178 | 55 => 180 | 4 => 4 | 46 => 172 | 45 => 171 | 50 => 66 | 5 => 5 | 9 => 9 | 66 => 182 | 70 => 186 | 76 => 192 | 77 => 48 | n => n, fun | n => n⟩
theorem Tryz.laysSlF06_f100 : Go.Proofs.SlLaysF0.n6 Tryz.prog Tryz.laysSlF06_f100_ren := {
  mixed := by kernel_rfl
  f6 := ⟨Tryz.f100.name, by decide, Tryz.func100.trans (congrArg some (by kernel_rfl))⟩
  f14 := ⟨Tryz.f111.name, by decide, Tryz.func111.trans (congrArg some (by kernel_rfl))⟩
  f15 := Tryz.func112.trans (congrArg some (by kernel_rfl))
  f20 := ⟨Tryz.f117.name, by decide, Tryz.func117.trans (congrArg some (by kernel_rfl))⟩
  f21 := ⟨Tryz.f118.name, by decide, Tryz.func118.trans (congrArg some (by kernel_rfl))⟩
  f22 := ⟨Tryz.f119.name, by decide, Tryz.func119.trans (congrArg some (by kernel_rfl))⟩
  f23 := ⟨Tryz.f120.name, by decide, Tryz.func120.trans (congrArg some (by kernel_rfl))⟩
  f24 := ⟨Tryz.f121.name, by decide, Tryz.func121.trans (congrArg some (by kernel_rfl))⟩
  f25 := ⟨Tryz.f122.name, by decide, Tryz.func122.trans (congrArg some (by kernel_rfl))⟩
  f26 := ⟨Tryz.f123.name, by decide, Tryz.func123.trans (congrArg some (by kernel_rfl))⟩
  f27 := ⟨Tryz.f124.name, by decide, Tryz.func124.trans (congrArg some (by kernel_rfl))⟩
  f28 := Tryz.func125.trans (congrArg some (by kernel_rfl))
  f29 := Tryz.func126.trans (congrArg some (by kernel_rfl))
  f46 := ⟨Tryz.f131.name, by decide, Tryz.func131.trans (congrArg some (by kernel_rfl))⟩
  f47 := Tryz.func132.trans (congrArg some (by kernel_rfl))
  f48 := Tryz.func133.trans (congrArg some (by kernel_rfl))
  f49 := ⟨Tryz.f134.name, by decide, Tryz.func134.trans (congrArg some (by kernel_rfl))⟩
  f50 := ⟨Tryz.f135.name, by decide, Tryz.func135.trans (congrArg some (by kernel_rfl))⟩
  f57 := ⟨Tryz.f140.name, by decide, Tryz.func140.trans (congrArg some (by kernel_rfl))⟩
  t0 := Tryz.underlying0
  a0 := Tryz.isAgg0
  z0 := Tryz.sizeOf0
  v0 := Tryz.zeroValue0
  t3 := Tryz.underlying3
  a3 := Tryz.isAgg3
  z3 := Tryz.sizeOf3
  v3 := Tryz.zeroValue3
  t4 := Tryz.underlying4
  a4 := Tryz.isAgg4
  z4 := Tryz.sizeOf4
  v4 := Tryz.zeroValue4
  t5 := Tryz.underlying5
  a5 := Tryz.isAgg5
  z5 := Tryz.sizeOf5
  v5 := Tryz.zeroValue5
  t9 := Tryz.underlying9
  a9 := Tryz.isAgg9
  z9 := Tryz.sizeOf9
  v9 := Tryz.zeroValue9
  t22 := Tryz.underlying46
  a22 := Tryz.isAgg46
  z22 := Tryz.sizeOf46
  v22 := Tryz.zeroValue46
  t25 := Tryz.underlying162
  a25 := Tryz.isAgg162
  z25 := Tryz.sizeOf162
  v25 := Tryz.zeroValue162
  t39 := Tryz.underlying168
  a39 := Tryz.isAgg168
  z39 := Tryz.sizeOf168
  v39 := Tryz.zeroValue168
  t45 := Tryz.underlying171
  a45 := Tryz.isAgg171
  z45 := Tryz.sizeOf171
  v45 := Tryz.zeroValue171
  t46 := Tryz.underlying172
  a46 := Tryz.isAgg172
  z46 := Tryz.sizeOf172
  v46 := Tryz.zeroValue172
  t50 := Tryz.underlying66
  a50 := Tryz.isAgg66
  z50 := Tryz.sizeOf66
  v50 := Tryz.zeroValue66
  t53 := Tryz.underlying178
  a53 := Tryz.isAgg178
  z53 := Tryz.sizeOf178
  v53 := Tryz.zeroValue178
  t55 := Tryz.underlying180
  a55 := Tryz.isAgg180
  z55 := Tryz.sizeOf180
  v55 := Tryz.zeroValue180
  t66 := Tryz.underlying182
  a66 := Tryz.isAgg182
  z66 := Tryz.sizeOf182
  v66 := Tryz.zeroValue182
  t70 := Tryz.underlying186
  a70 := Tryz.isAgg186
  z70 := Tryz.sizeOf186
  v70 := Tryz.zeroValue186
  t76 := Tryz.underlying192
  a76 := Tryz.isAgg192
  z76 := Tryz.sizeOf192
  v76 := Tryz.zeroValue192
  t77 := Tryz.underlying48
  a77 := Tryz.isAgg48
  z77 := Tryz.sizeOf48
  v77 := Tryz.zeroValue48 }
open Go.RowKit Go.Lib Go.Sort in
theorem Tryz.slices_SortFunc_none {α : Type} [Inhabited α] (p : Option Addr) (cap : Nat) (fv : Value) (w : World) :
    Calls Tryz.prog 100 #[.slice p 0 cap, fv] w fun e w' => e = .returned (.tuple #[]) ∧ w' = w := AnyF.slices_SortFunc_none Tryz.laysSlF06_f100 p cap fv w
end Go.Proofs
namespace Go.Proofs.YtncmgiddcefpcaaGreatDoor
open Go Go.Ev Go.RowKit Go.Sort Go.Proofs Go.Shelf Go.Lib
set_option linter.unusedSimpArgs false
set_option linter.unusedVariables false
set_option maxRecDepth 100000
theorem nil_walk (d : Int) (w : World) : Calls Tryz.prog 73 #[.pointer none, .int .i64 d] w fun e w' => e = .returned (.slice none 0 0) ∧ Below w.heap.size w w' := by
  go_enter Tryz.func73, Tryz.ntmps73
  go_wp2
  go_ret
  exact ⟨rfl, Below.refl _ _⟩
theorem swo_bytes : SWO (ltOf Lib.compareBytes) := by
  have h : ∀ x y, ltOf Lib.compareBytes x y = decide (x < y) := fun x y => by
    unfold ltOf
    rw [Bool.eq_iff_iff]
    have := Go.Con.cmp_lt x y
    simp [this]
  refine { irrefl := fun x => ?_, trans := fun x y z h1 h2 => ?_, ntrans := fun x y z h1 h2 => ?_ }
  · rw [h]; simp [List.lt_irrefl]
  · rw [h] at *
    simp only [decide_eq_true_eq] at *
    exact List.lt_trans h1 h2
  · rw [h] at *
    simp only [decide_eq_false_iff_not, List.not_lt] at *
    exact List.le_trans h2 h1
theorem sort_ok : SortOK := by
  intro blk cap ss w cur hb ht hc hl
  have eg : ∀ args w, (callFunc 101 args).run Tryz.prog w = .ok (.enter 101 args) w := enters_of Tryz.func101 (by kernel_rfl) rfl
  have hcmp : CmpReads Tryz.prog 101 #[] encStr Lib.compareBytes blk 0 ss.toArray.size w := fun m os dk _ x y => (clos_walk _ _ _).mono fun e w' he => ⟨he.1, 0, he.2⟩
  have hcon := Tryz.slices_SortFunc encStr (fun _ => rfl) Lib.compareBytes swo_bytes 101 #[] blk 0 cap ss.toArray w eg hcmp.lays (holds_of_block hb ht) (Array.getElem?_eq_some_iff.1 hb).1 (by simpa using hl)
  have e1 : ss.toArray.size = ss.length := by simp
  rw [e1] at hcon
  refine hcon.mono fun e w' he => ?_
  obtain ⟨rfl, d', n, os, hp, hs, rfl⟩ := he
  refine ⟨rfl, n, os, ?_⟩
  have : d' = (sortB ss).toArray := by
    obtain ⟨hz, _, hpm⟩ := hp
    rw [e1] at hz
    have ed : d'.extract 0 ss.length = d' := by rw [← hz]; simp
    have es : ss.toArray.extract 0 ss.length = ss.toArray := by simp
    rw [ed, es] at hpm
    have hsorted : d'.toList.Pairwise fun a b => ¬ b < a := by
      rw [List.pairwise_iff_getElem]
      intro i j hi hj hij
      rw [Array.length_toList] at hi hj
      have := hs i j (Nat.zero_le _) hij (by omega)
      rw [getElem!_pos d' j hj, getElem!_pos d' i hi] at this
      unfold ltOf at this
      intro hlt
      have h2 := (Go.Con.cmp_lt d'[j] d'[i]).2 hlt
      simp [h2] at this
    have := sortB_uniq hpm hsorted
    rw [← this]
  rw [this]; rfl
theorem sort_nil : SortNil := fun w => (AnyF.slices_SortFunc_none { Tryz.laysSlF6_f100 with } none 0 _ w).mono fun e w' he => ⟨he.1, by rw [he.2]; exact Below.refl _ _⟩
theorem names_sum {I : Inv} : SumOK Tryz.prog I 73 (sumNames 9) := sumNames_ok (by kernel_rfl) nil_walk (names_walk sort_ok sort_nil)
end Go.Proofs.YtncmgiddcefpcaaGreatDoor
namespace Go.Proofs.YtncmgiddcefpcaaGreatDoor
open Go Go.Ev Go.RowKit
set_option linter.unusedSimpArgs false
set_option linter.unusedVariables false
set_option maxRecDepth 100000
theorem mask_all : ((List.range 115).all fun f => !(mask.testBit f) || okF Tryz.prog f) = true := by kernel_rfl
theorem ctx_mix : ctx.P.follows .mixedOrders = true := by kernel_rfl
theorem good1 : GoodF Tryz.prog 106 := ⟨Tryz.f106, Tryz.func106, by kernel_rfl, by kernel_rfl⟩
theorem good3 : GoodF Tryz.prog 110 := ⟨Tryz.f110, Tryz.func110, by kernel_rfl, by kernel_rfl⟩
theorem good4 : GoodF Tryz.prog 73 := ⟨Tryz.f73, Tryz.func73, by kernel_rfl, by kernel_rfl⟩
theorem sumAt_mem {f : Nat} {s : Sum} : ∀ {l : List (Nat × Sum)}, sumAt f l = some s → (f, s) ∈ l
  | (g, t) :: l, h => by
    unfold sumAt at h
    cases hb : Nat.beq f g with
    | true =>
      rw [hb] at h
      simp only [cond_true, Option.some.injEq] at h
      obtain rfl := Nat.eq_of_beq_eq_true hb
      rw [h]; exact List.mem_cons_self
    | false => rw [hb] at h; exact List.mem_cons_of_mem _ (sumAt_mem h)
theorem sums_good {I : Inv} (hI : ∀ m h w, I m h w → ∃ mx, w.cell? ⟨0, 0, none⟩ = some (.int .i64 mx)) : ∀ p ∈ sums, GoodF Tryz.prog p.1 ∧ SumOK Tryz.prog I p.1 p.2 := by
  intro p hp
  rcases List.mem_cons.1 hp with rfl | hp
  · exact ⟨good1, sumSplit_ok hI Tryz.strings_Split⟩
  rcases List.mem_cons.1 hp with rfl | hp
  · exact ⟨good3, sumCmp_ok (I := I) Tryz.strings_Compare⟩
  rcases List.mem_cons.1 hp with rfl | hp
  · exact ⟨good4, names_sum (I := I)⟩
  cases hp
theorem ctx_ok {I : Inv} (hI : ∀ m h w, I m h w → ∃ mx, w.cell? ⟨0, 0, none⟩ = some (.int .i64 mx)) : CtxOK ctx I (regOk ctx.P) := by
  refine ⟨fun f hf => mask_ok (k := 115) (of_decide_eq_true (by kernel_rfl)) mask_all f hf, fun f s hs args h v h' e => ?_⟩
  obtain ⟨h1, h2⟩ := sums_good hI (f, s) (sumAt_mem hs)
  exact ⟨h1, h2 args h v h' e⟩
theorem maxLen {w : World} (h : w.ShapedOpen Tryz.prog) : ∃ m, w.cell? ⟨0, 0, none⟩ = some (.int .i64 m) :=
  Go.Proofs.cell_of_shapedOpen_int (zero := #[.int .i64 0]) (t := 3) h (of_decide_eq_true (by kernel_rfl)) (by kernel_rfl) rfl (by kernel_rfl) (by kernel_rfl) Tryz.underlying3
end Go.Proofs.YtncmgiddcefpcaaGreatDoor
namespace Go.Proofs.YtncmgiddcefpcaaGreatDoor
open Go Go.Ev Go.RowKit
set_option linter.unusedSimpArgs false
set_option linter.unusedVariables false
set_option maxRecDepth 100000
def sumTrue : Sum := fun _ h => some (.bool true, h)
theorem sumTrue_ok {I : Inv} {f : FuncId} (hI : ∀ m h w, I m h w → ∃ mx, w.cell? ⟨0, 0, none⟩ = some (.int .i64 mx)) {n : Nat} (e : (evCall ctx n f [] h0).map (·.1) = some (.bool true)) : ∀ h v h', sumTrue [] h = some (v, h') → ∀ m w args', Rep ctx.P m h w → I m h w → VL m [] args' →
    Calls ctx.P f args'.toArray w fun e w' => ∃ v' m', e = .returned v' ∧ Rep ctx.P m' h' w' ∧ Step m h w m' h' w' ∧ VRel m' v v' := by
  intro h v h' hs m w args' r hi hv
  cases hv
  cases hs
  have hC : CtxOK ctx (From m0 h0 w) (regOk ctx.P) := ctx_ok fun _ _ _ i => (hI m h w hi).imp fun _ e => i.cell0 e
  refine (closed_bool hC ctx_mix e).mono fun e w' he => ?_
  obtain ⟨rfl, hb⟩ := he
  obtain ⟨h1, h2⟩ := r.below hb
  exact ⟨_, m, rfl, h1, h2, .bool _⟩
theorem awake_val : (awakes.all fun f => match ((evCall ctx 200 f [] h0).map (·.1) : Option Value) with
  | some (.bool b) => b
  | _ => false) = true := by kernel_rfl
theorem awake_good : (awakes.all fun f => match Tryz.prog.funcs[f]? with
  | some fn => fn.body.isSome && !(fn.name == "runtime.NumGoroutine")
  | none => false) = true := by kernel_rfl
theorem kon_ok {I : Inv} (hI : ∀ m h w, I m h w → ∃ mx, w.cell? ⟨0, 0, none⟩ = some (.int .i64 mx)) : CtxOK kon I (regOk kon.P) := by
  have base := ctx_ok hI
  refine ⟨base.1, fun f s hs args h v h' e => ?_⟩
  simp only [kon] at hs
  cases hf : awakes.contains f with
  | false => rw [hf] at hs; exact base.2 f s hs args h v h' e
  | true =>
    rw [hf] at hs
    simp only [cond_true, Option.some.injEq] at hs
    subst hs
    have hm : f ∈ awakes := by simpa using hf
    have h1 := List.all_eq_true.1 awake_val f hm
    have h2 := List.all_eq_true.1 awake_good f hm
    unfold sumAwake at e
    split at e
    · refine ⟨?_, fun m w args' r hi hv => ?_⟩
      · split at h2
        · rename_i fn hfn
          simp only [Bool.and_eq_true, Bool.not_eq_true'] at h2
          exact ⟨fn, hfn, h2.2, by have := h2.1; cases hb : fn.body <;> simp_all⟩
        · cases h2
      · refine sumTrue_ok hI (n := 200) ?_ h v h' (by simpa [sumTrue] using e) m w args' r hi hv
        split at h1
        · rename_i b hb
          rw [hb, h1]
        · cases h1
    · cases e
theorem kon_mix : kon.P.follows .mixedOrders = true := ctx_mix
theorem kon_from {w0 : World} (h : w0.ShapedOpen Tryz.prog) : CtxOK kon (From (mIn w0) (hIn w0) w0) (regOk kon.P) :=
  kon_ok fun _ _ _ i => (maxLen h).imp fun _ e => i.cellIn e
end Go.Proofs.YtncmgiddcefpcaaGreatDoor
namespace Go.Proofs.YtncmgiddcefpcaaGreatDoor
open Go Go.Ev Go.RowKit
set_option linter.unusedSimpArgs false
set_option linter.unusedVariables false
set_option maxRecDepth 1000000
end Go.Proofs.YtncmgiddcefpcaaGreatDoor
namespace Go.Proofs.YtncmgiddcefpcaaGreatDoor
open Go Go.Ev Go.RowKit Go.Con
set_option linter.unusedSimpArgs false
set_option linter.unusedVariables false
set_option maxRecDepth 1000000
end Go.Proofs.YtncmgiddcefpcaaGreatDoor
namespace Go.Proofs.YtncmgiddcefpcaaGreatDoor
open Go Go.Ev Go.RowKit Go.Con
set_option linter.unusedSimpArgs false
set_option linter.unusedVariables false
set_option maxRecDepth 1000000
theorem rdStr {W : World} {v : Value} (r : RdT Tryz.prog W 9 v.cells.toList) {base : Nat} (o : Value.okWide Tryz.prog W .any base 9 v) : ∃ s, v = .string s := by
  obtain ⟨s, hs, _⟩ := r.string Tryz.underlying9
  have o : Cell.okWide Tryz.prog W .any base 9 v := by unfold Value.okWide at o; rw [Tryz.underlying9] at o; exact o
  have o : Cell.ok Tryz.prog W .any base 9 v := by unfold Cell.okWide at o; rw [Tryz.underlying9] at o; cases v <;> exact o
  unfold Cell.ok at o
  rw [Tryz.underlying9] at o
  cases v with
  | string s => exact ⟨s, rfl⟩
  | _ => exact o.elim
theorem rdTm {W : World} {cs : List Value} (r : RdT Tryz.prog W 65 cs) : ∃ x : Tm, cs = tmC x := by
  have hl := r.len Tryz.underlying65 (n := 4) (by kernel_rfl)
  match cs, hl, r with
  | [a, b, c, d], _, r =>
    obtain ⟨s, hs, _⟩ := (r.field Tryz.underlying65 0 9 0 1 rfl (by kernel_rfl)).string Tryz.underlying9
    have rf : RdT Tryz.prog W 62 [b, c, d] := r.field Tryz.underlying65 1 62 1 3 rfl (by kernel_rfl)
    have c1 : Tryz.prog.cellsOf 4 = 1 := by kernel_rfl
    obtain ⟨x, hx⟩ := (rf.field Tryz.underlying62 0 4 0 1 rfl c1).bool Tryz.underlying4
    obtain ⟨y, hy⟩ := (rf.field Tryz.underlying62 1 4 1 1 rfl c1).bool Tryz.underlying4
    obtain ⟨z, hz⟩ := (rf.field Tryz.underlying62 2 4 2 1 rfl c1).bool Tryz.underlying4
    cases hs; cases hx; cases hy; cases hz
    exact ⟨⟨s, ⟨x, y, z⟩⟩, rfl⟩
theorem tms_of {cs' : List Value} {xs : List Tm} (hl : cs'.length = xs.length * 4) (h : ∀ (i : Nat) (x : Tm), xs[i]? = some x → (cs'.drop (i * 4)).take 4 = tmC x) : cs' = tms xs := by
  induction xs generalizing cs' with
  | nil => have : cs'.length = 0 := by simpa using hl
           exact List.length_eq_zero_iff.1 this
  | cons a xs ih =>
    have h0 := h 0 a rfl
    rw [Nat.zero_mul, List.drop_zero] at h0
    have e : cs' = tmC a ++ cs'.drop 4 := by rw [← h0, List.take_append_drop]
    have e2 : cs'.drop 4 = tms xs := by
      refine ih (by rw [List.length_drop, hl, List.length_cons]; omega) fun i x hi => ?_
      have := h (i + 1) x (by simpa using hi)
      rw [List.drop_drop, ← this]; congr 2; omega
    rw [e, e2]; rfl
theorem tms_in {W : World} (hsh : W.ShapedOpen Tryz.prog) {cs : List Value} (r : RdT Tryz.prog W 30 cs) : ∃ (v v' : Value) (l : List Tm), cs = [v] ∧ (v = .slice none 0 0 ∨ ∃ a len cap, v = .slice (some a) len cap) ∧ absC W.heap.size v = some v' ∧ TmSl (hIn W) v' l := by
  obtain ⟨v, v', xs, cs', hv, hv2, hva, hsl, hlen, hR⟩ := sl_in (α := Tm) (n := 4) (fun x l => l = tmC x) (P := Tryz.prog) (W := W) (e := 65) (by kernel_rfl) (by omega)
    (fun l h => by obtain ⟨x, rfl⟩ := rdTm h; exact ⟨x, tmC x, rfl, rfl⟩) (by obtain ⟨m, h⟩ := maxLen hsh; exact ⟨_, h⟩) Tryz.underlying30 r
  have hcs := tms_of hlen hR
  subst hcs
  exact ⟨v, v', xs, hv, hv2, hva, hsl⟩
end Go.Proofs.YtncmgiddcefpcaaGreatDoor
namespace Go.Proofs.YtncmgiddcefpcaaGreatDoor
open Go Go.Ev Go.RowKit Go.Con
set_option linter.unusedSimpArgs false
set_option linter.unusedVariables false
set_option maxRecDepth 1000000
theorem rdDd {W : World} (hsh : W.ShapedOpen Tryz.prog) {cs : List Value} (r : RdT Tryz.prog W 36 cs) : ∃ (d : Dd) (cs' : List Value), absL W.heap.size cs = some cs' ∧ ∃ sl, cs' = ddC d sl ∧ TmSl (hIn W) sl d.b.acl := by
  have c1 : Tryz.prog.cellsOf 3 = 1 := by kernel_rfl
  have cb : Tryz.prog.cellsOf 4 = 1 := by kernel_rfl
  have c2 : Tryz.prog.cellsOf 9 = 1 := by kernel_rfl
  have hl := r.len Tryz.underlying36 (n := 14) (by kernel_rfl)
  match cs, hl, r with
  | [x0, x1, x2, x3, y0, y1, y2, y3, y4, y5, z0, z1, z2, z3], _, r =>
    have r0 : RdT Tryz.prog W 3 [x0] := r.field Tryz.underlying36 0 3 0 1 rfl c1
    have r1 : RdT Tryz.prog W 3 [x1] := r.field Tryz.underlying36 1 3 1 1 rfl c1
    have r2 : RdT Tryz.prog W 9 [x2] := r.field Tryz.underlying36 2 9 2 1 rfl c2
    have r3 : RdT Tryz.prog W 9 [x3] := r.field Tryz.underlying36 3 9 3 1 rfl c2
    have rb : RdT Tryz.prog W 34 [y0, y1, y2, y3, y4, y5, z0, z1, z2, z3] := r.field Tryz.underlying36 4 34 4 10 rfl (by kernel_rfl)
    have b0 : RdT Tryz.prog W 3 [y0] := rb.field Tryz.underlying34 0 3 0 1 rfl c1
    have b1 : RdT Tryz.prog W 3 [y1] := rb.field Tryz.underlying34 1 3 1 1 rfl c1
    have b2 : RdT Tryz.prog W 3 [y2] := rb.field Tryz.underlying34 2 3 2 1 rfl c1
    have b3 : RdT Tryz.prog W 9 [y3] := rb.field Tryz.underlying34 3 9 3 1 rfl c2
    have b4 : RdT Tryz.prog W 4 [y4] := rb.field Tryz.underlying34 4 4 4 1 rfl cb
    have b5 : RdT Tryz.prog W 30 [y5] := rb.field Tryz.underlying34 5 30 5 1 rfl (by kernel_rfl)
    have b6 : RdT Tryz.prog W 32 [z0, z1, z2, z3] := rb.field Tryz.underlying34 6 32 6 4 rfl (by kernel_rfl)
    obtain ⟨a0, h0, _⟩ := r0.int Tryz.underlying3
    obtain ⟨a1, h1, _⟩ := r1.int Tryz.underlying3
    obtain ⟨a2, h2, _⟩ := r2.string Tryz.underlying9
    obtain ⟨a3, h3, _⟩ := r3.string Tryz.underlying9
    obtain ⟨d0, i0, _⟩ := b0.int Tryz.underlying3
    obtain ⟨d1, i1, _⟩ := b1.int Tryz.underlying3
    obtain ⟨d2, i2, _⟩ := b2.int Tryz.underlying3
    obtain ⟨d3, i3, _⟩ := b3.string Tryz.underlying9
    obtain ⟨d4, i4⟩ := b4.bool Tryz.underlying4
    obtain ⟨v, v', l, hv, _, hva, hs⟩ := tms_in hsh b5
    obtain ⟨e0, j0, _⟩ := (b6.field Tryz.underlying32 0 3 0 1 rfl c1).int Tryz.underlying3
    obtain ⟨e1, j1, _⟩ := (b6.field Tryz.underlying32 1 3 1 1 rfl c1).int Tryz.underlying3
    obtain ⟨e2, j2, _⟩ := (b6.field Tryz.underlying32 2 3 2 1 rfl c1).int Tryz.underlying3
    obtain ⟨e3, j3, _⟩ := (b6.field Tryz.underlying32 3 3 3 1 rfl c1).int Tryz.underlying3
    cases h0; cases h1; cases h2; cases h3; cases i0; cases i1; cases i2; cases i3; cases i4; cases hv; cases j0; cases j1; cases j2; cases j3
    refine ⟨⟨a0, a1, a2, a3, ⟨d0, d1, d2, d3, d4, l, ⟨e0, e1, e2, e3⟩⟩⟩, ddC ⟨a0, a1, a2, a3, ⟨d0, d1, d2, d3, d4, l, ⟨e0, e1, e2, e3⟩⟩⟩ v', ?_, v', rfl, hs⟩
    have key : ∀ {x a : Value} {l bs : List Value}, absC W.heap.size x = some a → absL W.heap.size l = some bs → absL W.heap.size (x :: l) = some (a :: bs) := fun {x a l bs} h1 h2 => by unfold absL; rw [h1, Option.bind_some, h2]; rfl
    exact key rfl (key rfl (key rfl (key rfl (key rfl (key rfl (key rfl (key rfl (key rfl (key hva (key rfl (key rfl (key rfl (key rfl rfl)))))))))))))
theorem dds_in {W : World} (hsh : W.ShapedOpen Tryz.prog) {cs : List Value} (r : RdT Tryz.prog W 22 cs) : ∃ (v v' : Value) (l : List Dd), cs = [v] ∧ (v = .slice none 0 0 ∨ ∃ a len cap, v = .slice (some a) len cap) ∧ absC W.heap.size v = some v' ∧ DdSl (hIn W) v' l := by
  obtain ⟨v, v', xs, cs', hv, hv2, hva, hsl, hlen, hR⟩ := sl_in (α := Dd) (n := 14) (fun d l => ∃ sl, l = ddC d sl ∧ TmSl (hIn W) sl d.b.acl) (P := Tryz.prog) (W := W) (e := 36) (by kernel_rfl) (by omega)
    (fun l h => rdDd hsh h) (by obtain ⟨m, h⟩ := maxLen hsh; exact ⟨_, h⟩) Tryz.underlying22 r
  exact ⟨v, v', xs, hv, hv2, hva, cs', hsl, hlen, hR⟩
theorem absA_cons {N : Nat} {x a : Value} {l bs : List Value} (h1 : absV N x = some a) (h2 : absA N l = some bs) : absA N (x :: l) = some (a :: bs) := by unfold absA; rw [h1, Option.bind_some, h2]; rfl
theorem slice_one {a : Option Addr} {len cap : Nat} {v : Value} (h : (Value.slice a len cap).cells.toList = [v]) : v = .slice a len cap := by
  have : (Value.slice a len cap).cells.toList = [.slice a len cap] := rfl
  rw [this] at h; simpa using h.symm
end Go.Proofs.YtncmgiddcefpcaaGreatDoor
namespace Go.Proofs.YtncmgiddcefpcaaGreatDoor
open Go Go.Ev Go.RowKit Go.Con
set_option linter.unusedSimpArgs false
set_option linter.unusedVariables false
set_option maxRecDepth 1000000
set_option maxHeartbeats 8000000 in
theorem walkRoot_true {h : Hp} {vl : Value} {l : List Dd} (sl : DdSl h vl l) (p : ByteArray) : Meets kon 3 [vl, .string p] h fun v _ => v = .bool true := by
  have aw := fun h Q => awake_call (f := 11) rfl h Q
  have ll := sl.len
  have sp := (small_spec sl).call
  refine Meets.mk rfl (by kernel_rfl) Tryz.func3 rfl (congrArg Array.toList Tryz.results3) ?_
  cases hs : small l with
  | false =>
    rw [hs] at sp
    repeat' (first | simp only [evr, nextP_norm, evd, evq, beq_self_eq_true, cond_true, cond_false, reduceIte, Nat.reduceEqDiff, Nat.reduceAdd, Int.reduceBNe, Int.reduceBEq, Int.reduceLT, Int.reduceLE, Int.reduceEq, evh, evp, Nat.reduceLeDiff, Nat.reduceSub, Nat.reduceBEq, typs, aw, sp] | refine kCond2_by (fun hc => ?_) (fun hc => ?_) <;> try simp only [hc] | refine kPick_by (fun hc => ?_) (fun hc => ?_) <;> try simp only [hc] | refine kWant_by (fun hc => ?_) (fun hc => ?_) <;> try simp only [hc])
  | true =>
    rw [hs] at sp
    by_cases hm : 100 < p.size
    · have f1 : decide ((100 : Int) < (p.size : Int)) = true := decide_eq_true (by omega)
      repeat' (first | simp only [evr, nextP_norm, evd, evq, beq_self_eq_true, cond_true, cond_false, reduceIte, Nat.reduceEqDiff, Nat.reduceAdd, Int.reduceBNe, Int.reduceBEq, Int.reduceLT, Int.reduceLE, Int.reduceEq, evh, evp, Nat.reduceLeDiff, Nat.reduceSub, Nat.reduceBEq, typs, aw, sp, f1] | refine kCond2_by (fun hc => ?_) (fun hc => ?_) <;> try simp only [hc] | refine kPick_by (fun hc => ?_) (fun hc => ?_) <;> try simp only [hc] | refine kWant_by (fun hc => ?_) (fun hc => ?_) <;> try simp only [hc])
    have f1 : decide ((100 : Int) < (p.size : Int)) = false := decide_eq_false (by omega)
    repeat' (first | simp only [evr, nextP_norm, evd, evq, beq_self_eq_true, cond_true, cond_false, reduceIte, Nat.reduceEqDiff, Nat.reduceAdd, Int.reduceBNe, Int.reduceBEq, Int.reduceLT, Int.reduceLE, Int.reduceEq, evh, evp, Nat.reduceLeDiff, Nat.reduceSub, Nat.reduceBEq, typs, aw, sp, f1] | refine kCond2_by (fun hc => ?_) (fun hc => ?_) <;> try simp only [hc] | refine kPick_by (fun hc => ?_) (fun hc => ?_) <;> try simp only [hc] | refine kWant_by (fun hc => ?_) (fun hc => ?_) <;> try simp only [hc])
    refine callP_meets (tNew_spec h) ?_
    rintro _ h1 ⟨F, bt, rfl, k1, t1, fF⟩
    unfold ptrV
    repeat' (first | simp only [evr, nextP_norm, evd, evq, beq_self_eq_true, cond_true, cond_false, reduceIte, Nat.reduceEqDiff, Nat.reduceAdd, Int.reduceBNe, Int.reduceBEq, Int.reduceLT, Int.reduceLE, Int.reduceEq, evh, evp, Nat.reduceLeDiff, Nat.reduceSub, Nat.reduceBEq, typs] | refine kCond2_by (fun hc => ?_) (fun hc => ?_) <;> try simp only [hc] | refine kPick_by (fun hc => ?_) (fun hc => ?_) <;> try simp only [hc] | refine kWant_by (fun hc => ?_) (fun hc => ?_) <;> try simp only [hc])
    refine callP_meets (rNew_spec h1) ?_
    rintro _ h2 ⟨G, br, rfl, k2, r2, fG⟩
    have b0 := both_start k1 t1 fF k2 r2 fG
    unfold ptrV
    have ep : ∀ n : Nat, (some (⟨n, 0, none⟩ : Addr) == none) = false := fun n => rfl
    repeat' (first | simp only [evr, nextP_norm, evd, evq, beq_self_eq_true, cond_true, cond_false, reduceIte, Nat.reduceEqDiff, Nat.reduceAdd, Int.reduceBNe, Int.reduceBEq, Int.reduceLT, Int.reduceLE, Int.reduceEq, evh, evp, Nat.reduceLeDiff, Nat.reduceSub, Nat.reduceBEq, typs, ep] | refine kCond2_by (fun hc => ?_) (fun hc => ?_) <;> try simp only [hc] | refine kPick_by (fun hc => ?_) (fun hc => ?_) <;> try simp only [hc] | refine kWant_by (fun hc => ?_) (fun hc => ?_) <;> try simp only [hc])
    obtain ⟨l121, lacl⟩ := small_len hs
    refine Wp_loop (fun k fr H => ∃ i : Nat, k = l.length - i ∧ i ≤ l.length ∧ Both h H (newHi.steps (l.take i)) bt br i ∧ fr.get 0 = some vl ∧ fr.get 1 = some (.string p) ∧ fr.get 5 = some (.pointer (some ⟨bt, 0, none⟩)) ∧ fr.get 6 = some (.pointer (some ⟨br, 0, none⟩)) ∧ fr.get 7 = some (.int .i64 i)) l.length ⟨0, rfl, Nat.zero_le _, b0, ?_, ?_, ?_, ?_, ?_⟩ ?_
    · repeat' (first | simp only [evr, nextP_norm, evd, evq, beq_self_eq_true, cond_true, cond_false, reduceIte, Nat.reduceEqDiff, Nat.reduceAdd, Int.reduceBNe, Int.reduceBEq, Int.reduceLT, Int.reduceLE, Int.reduceEq, evh, evp, Nat.reduceLeDiff, Nat.reduceSub, Nat.reduceBEq, typs] | refine kCond2_by (fun hc => ?_) (fun hc => ?_) <;> try simp only [hc] | refine kPick_by (fun hc => ?_) (fun hc => ?_) <;> try simp only [hc] | refine kWant_by (fun hc => ?_) (fun hc => ?_) <;> try simp only [hc])
    · repeat' (first | simp only [evr, nextP_norm, evd, evq, beq_self_eq_true, cond_true, cond_false, reduceIte, Nat.reduceEqDiff, Nat.reduceAdd, Int.reduceBNe, Int.reduceBEq, Int.reduceLT, Int.reduceLE, Int.reduceEq, evh, evp, Nat.reduceLeDiff, Nat.reduceSub, Nat.reduceBEq, typs] | refine kCond2_by (fun hc => ?_) (fun hc => ?_) <;> try simp only [hc] | refine kPick_by (fun hc => ?_) (fun hc => ?_) <;> try simp only [hc] | refine kWant_by (fun hc => ?_) (fun hc => ?_) <;> try simp only [hc])
    · repeat' (first | simp only [evr, nextP_norm, evd, evq, beq_self_eq_true, cond_true, cond_false, reduceIte, Nat.reduceEqDiff, Nat.reduceAdd, Int.reduceBNe, Int.reduceBEq, Int.reduceLT, Int.reduceLE, Int.reduceEq, evh, evp, Nat.reduceLeDiff, Nat.reduceSub, Nat.reduceBEq, typs] | refine kCond2_by (fun hc => ?_) (fun hc => ?_) <;> try simp only [hc] | refine kPick_by (fun hc => ?_) (fun hc => ?_) <;> try simp only [hc] | refine kWant_by (fun hc => ?_) (fun hc => ?_) <;> try simp only [hc])
    · repeat' (first | simp only [evr, nextP_norm, evd, evq, beq_self_eq_true, cond_true, cond_false, reduceIte, Nat.reduceEqDiff, Nat.reduceAdd, Int.reduceBNe, Int.reduceBEq, Int.reduceLT, Int.reduceLE, Int.reduceEq, evh, evp, Nat.reduceLeDiff, Nat.reduceSub, Nat.reduceBEq, typs] | refine kCond2_by (fun hc => ?_) (fun hc => ?_) <;> try simp only [hc] | refine kPick_by (fun hc => ?_) (fun hc => ?_) <;> try simp only [hc] | refine kWant_by (fun hc => ?_) (fun hc => ?_) <;> try simp only [hc])
    · repeat' (first | simp only [evr, nextP_norm, evd, evq, beq_self_eq_true, cond_true, cond_false, reduceIte, Nat.reduceEqDiff, Nat.reduceAdd, Int.reduceBNe, Int.reduceBEq, Int.reduceLT, Int.reduceLE, Int.reduceEq, evh, evp, Nat.reduceLeDiff, Nat.reduceSub, Nat.reduceBEq, typs] | refine kCond2_by (fun hc => ?_) (fun hc => ?_) <;> try simp only [hc] | refine kPick_by (fun hc => ?_) (fun hc => ?_) <;> try simp only [hc] | refine kWant_by (fun hc => ?_) (fun hc => ?_) <;> try simp only [hc])
      rfl
    rintro k fr H ⟨i, rfl, hi, b, r0, r1, r5, r6, r7⟩
    by_cases h3 : i < l.length
    · have e3 : decide ((i : Int) < (l.length : Int)) = true := decide_eq_true (by omega)
      obtain ⟨q, o, all, s', pa, hb, hr, hz, hc, hs'⟩ := sl.at (List.getElem?_eq_getElem h3)
      have wi : IntKind.i64.wrap ((i : Int) + 1) = ((i + 1 : Nat) : Int) := by rw [wrap64 (by omega) (by omega)]; omega
      have hrH : rowOf H q = some all := (b.k.row hb).trans hr
      have hz' : decide (o + 14 ≤ all.length) = true := decide_eq_true hz
      repeat' (first | simp only [evr, nextP_norm, evd, evq, beq_self_eq_true, cond_true, cond_false, reduceIte, Nat.reduceEqDiff, Nat.reduceAdd, Int.reduceBNe, Int.reduceBEq, Int.reduceLT, Int.reduceLE, Int.reduceEq, evh, evp, Nat.reduceLeDiff, Nat.reduceSub, Nat.reduceBEq, typs, r0, r1, r5, r6, r7, ll, e3, pa, hrH, hz', hc] | refine kCond2_by (fun hc => ?_) (fun hc => ?_) <;> try simp only [hc] | refine kPick_by (fun hc => ?_) (fun hc => ?_) <;> try simp only [hc] | refine kWant_by (fun hc => ?_) (fun hc => ?_) <;> try simp only [hc])
      have := both_do b (by omega) l[i] hs' (lacl _ (List.getElem_mem h3))
      unfold ptrV at this
      refine callP_meets this ?_
      rintro _ H' ⟨rfl, b'⟩
      rw [← steps_take h3] at b'
      repeat' (first | simp only [evr, nextP_norm, evd, evq, beq_self_eq_true, cond_true, cond_false, reduceIte, Nat.reduceEqDiff, Nat.reduceAdd, Int.reduceBNe, Int.reduceBEq, Int.reduceLT, Int.reduceLE, Int.reduceEq, evh, evp, Nat.reduceLeDiff, Nat.reduceSub, Nat.reduceBEq, typs, r0, r1, r5, r6, r7, wi] | refine kCond2_by (fun hc => ?_) (fun hc => ?_) <;> try simp only [hc] | refine kPick_by (fun hc => ?_) (fun hc => ?_) <;> try simp only [hc] | refine kWant_by (fun hc => ?_) (fun hc => ?_) <;> try simp only [hc])
      exact ⟨l.length - (i + 1), by omega, i + 1, rfl, by omega, b', rfl⟩
    · have e3 : decide ((i : Int) < (l.length : Int)) = false := decide_eq_false (by omega)
      repeat' (first | simp only [evr, nextP_norm, evd, evq, beq_self_eq_true, cond_true, cond_false, reduceIte, Nat.reduceEqDiff, Nat.reduceAdd, Int.reduceBNe, Int.reduceBEq, Int.reduceLT, Int.reduceLE, Int.reduceEq, evh, evp, Nat.reduceLeDiff, Nat.reduceSub, Nat.reduceBEq, typs, r0, r1, r5, r6, r7, ll, e3] | refine kCond2_by (fun hc => ?_) (fun hc => ?_) <;> try simp only [hc] | refine kPick_by (fun hc => ?_) (fun hc => ?_) <;> try simp only [hc] | refine kWant_by (fun hc => ?_) (fun hc => ?_) <;> try simp only [hc])
      have b1 : Both h H (newHi.steps l) bt br i := by rw [List.take_of_length_le (by omega)] at b; exact b
      generalize newHi.steps l = T at b1
      clear b e3
      obtain ⟨F1, t1'⟩ := b1.t
      have fw := b1.few
      repeat' (first | simp only [evr, nextP_norm, evd, evq, beq_self_eq_true, cond_true, cond_false, reduceIte, Nat.reduceEqDiff, Nat.reduceAdd, Int.reduceBNe, Int.reduceBEq, Int.reduceLT, Int.reduceLE, Int.reduceEq, evh, evp, Nat.reduceLeDiff, Nat.reduceSub, Nat.reduceBEq, typs, r0, r1, r5, r6] | refine kCond2_by (fun hc => ?_) (fun hc => ?_) <;> try simp only [hc] | refine kPick_by (fun hc => ?_) (fun hc => ?_) <;> try simp only [hc] | refine kWant_by (fun hc => ?_) (fun hc => ?_) <;> try simp only [hc])
      have ad := tAdd_spec t1' (b := lkUp) (sl := .slice none 0 0) (by have := fw.1; omega) (by have := fw.2; omega) (.inl ⟨rfl, rfl⟩) (by decide) 0 nmUp
      unfold ptrV at ad
      refine callP_meets (args := [.pointer (some ⟨bt, 0, none⟩), .int .i64 0, .string ⟨#[126, 117, 112]⟩, .agg #[.int .i64 3, .int .i64 0, .int .i64 0, .string ⟨#[62]⟩, .bool false, .slice none 0 0, .int .i64 0, .int .i64 0, .int .i64 0, .int .i64 0]]) ad ?_
      rintro _ H2 ⟨rfl, F2, t2, u2⟩
      by_cases he : (T.add 0 nmUp lkUp).2.2 = 0
      · have f2 : ((T.add 0 nmUp lkUp).2.2 != 0) = false := by simp [he]
        have hwhy : T.why 0 nmUp lkUp = 0 := by
          unfold Hi.add at he
          by_cases hw : T.why 0 nmUp lkUp = 0
          · exact hw
          · rw [if_neg hw] at he; exact he
        have hT1 : (T.add 0 nmUp lkUp).1 = T.added 0 nmUp lkUp := by unfold Hi.add; rw [if_pos hwhy]
        have hlook := Hi.look_added 0 nmUp lkUp b1.ok hwhy
        have hck : (T.clean lkUp).kind = 3 ∧ (T.clean lkUp).link = ⟨#[62]⟩ := ⟨rfl, rfl⟩
        have hacl : ∀ i, ((T.add 0 nmUp lkUp).1.br i).acl.length ≤ 1000000000 := by obtain ⟨_, _, _, _, t⟩ := t2; exact t.acl
        rw [hT1] at t2 hacl
        generalize T.added 0 nmUp lkUp = T1 at *
        repeat' (first | simp only [evr, nextP_norm, evd, evq, beq_self_eq_true, cond_true, cond_false, reduceIte, Nat.reduceEqDiff, Nat.reduceAdd, Int.reduceBNe, Int.reduceBEq, Int.reduceLT, Int.reduceLE, Int.reduceEq, evh, evp, Nat.reduceLeDiff, Nat.reduceSub, Nat.reduceBEq, typs, r0, r1, r5, r6, f2] | refine kCond2_by (fun hc => ?_) (fun hc => ?_) <;> try simp only [hc] | refine kPick_by (fun hc => ?_) (fun hc => ?_) <;> try simp only [hc] | refine kWant_by (fun hc => ?_) (fun hc => ?_) <;> try simp only [hc])
        refine callP_meets (wFind_spec t2 p) ?_
        rintro _ H3 ⟨s3, rfl, ty3, k3⟩
        obtain ⟨c1, c2⟩ := TmTy.cell ty3
        unfold bnC
        simp only [evr, evd, evq, beq_self_eq_true, cond_true, cond_false, reduceIte, Nat.reduceEqDiff, Nat.reduceAdd, Int.reduceBNe, Int.reduceBEq, Int.reduceLT, Int.reduceLE, Int.reduceEq, evh, evp, Nat.reduceLeDiff, Nat.reduceSub, Nat.reduceBEq, typs, r0, r1, r5, r6, c1, c2]
        rw [nextP_norm]
        generalize hh : Hp.set _ _ _ = H4
        have k4 : Keep H3 H4 := by rw [← hh]; exact (Keep.push _ _).set (Nat.le_refl _)
        have n4 : H4.next = H3.next + 1 := by rw [← hh]; rfl
        have g4 : H4.get H3.next = some (.row (bnC (findK T1 8 p).1.1 s3) 40 (.rw 0 [])) := by rw [← hh]; exact Hp.get_set_self _ _ _
        clear hh
        have cat : ∀ xo yo, evBin kon.P .add 9 xo yo (.string ⟨#[62, 126, 117, 112]⟩) (.string p) = some (.string (pUp ++ p)) := fun xo yo => evBin_addS (s := pUp) (u := p) (by have : pUp.size = 4 := rfl; omega)
        repeat' (first | simp only [evr, nextP_norm, evd, evq, beq_self_eq_true, cond_true, cond_false, reduceIte, Nat.reduceEqDiff, Nat.reduceAdd, Int.reduceBNe, Int.reduceBEq, Int.reduceLT, Int.reduceLE, Int.reduceEq, evh, evp, Nat.reduceLeDiff, Nat.reduceSub, Nat.reduceBEq, typs, r0, r1, r5, r6, cat] | refine kCond2_by (fun hc => ?_) (fun hc => ?_) <;> try simp only [hc] | refine kPick_by (fun hc => ?_) (fun hc => ?_) <;> try simp only [hc] | refine kWant_by (fun hc => ?_) (fun hc => ?_) <;> try simp only [hc])
        refine callP_meets (wFind_spec ((t2.keeps k3).keeps k4) (pUp ++ p)) ?_
        rintro _ H5 ⟨s5, rfl, ty5, k5⟩
        obtain ⟨d1, d2⟩ := TmTy.cell ty5
        unfold bnC
        simp only [evr, evd, evq, beq_self_eq_true, cond_true, cond_false, reduceIte, Nat.reduceEqDiff, Nat.reduceAdd, Int.reduceBNe, Int.reduceBEq, Int.reduceLT, Int.reduceLE, Int.reduceEq, evh, evp, Nat.reduceLeDiff, Nat.reduceSub, Nat.reduceBEq, typs, r0, r1, r5, r6, d1, d2]
        rw [nextP_norm]
        generalize hh : Hp.set _ _ _ = H6
        have k6 : Keep H5 H6 := by rw [← hh]; exact (Keep.push _ _).set (Nat.le_refl _)
        have n6 : H6.next = H5.next + 1 := by rw [← hh]; rfl
        have g6 : H6.get H5.next = some (.row (bnC (findK T1 8 (pUp ++ p)).1.1 s5) 40 (.rw 0 [])) := by rw [← hh]; exact Hp.get_set_self _ _ _
        clear hh
        have n5 := k5.1
        have root := walk_root (T := T1) hlook hck.1 hck.2 (p := p)
        have la := findK_acl hacl 8 p
        generalize (findK T1 8 (pUp ++ p)).1 = R' at *
        generalize (findK T1 8 p).1 = R at *
        by_cases h1 : R.2 = 3
        · have e1 : (R.2 == 3) = true := by simp [h1]
          repeat' (first | simp only [evr, nextP_norm, evd, evq, beq_self_eq_true, cond_true, cond_false, reduceIte, Nat.reduceEqDiff, Nat.reduceAdd, Int.reduceBNe, Int.reduceBEq, Int.reduceLT, Int.reduceLE, Int.reduceEq, evh, evp, Nat.reduceLeDiff, Nat.reduceSub, Nat.reduceBEq, typs, r0, r1, r5, r6, e1] | refine kCond2_by (fun hc => ?_) (fun hc => ?_) <;> try simp only [hc] | refine kPick_by (fun hc => ?_) (fun hc => ?_) <;> try simp only [hc] | refine kWant_by (fun hc => ?_) (fun hc => ?_) <;> try simp only [hc])
        have e1 : (R.2 == 3) = false := by simp [h1]
        by_cases h2 : R'.2 = 3
        · have e2 : (R'.2 == 3) = true := by simp [h2]
          repeat' (first | simp only [evr, nextP_norm, evd, evq, beq_self_eq_true, cond_true, cond_false, reduceIte, Nat.reduceEqDiff, Nat.reduceAdd, Int.reduceBNe, Int.reduceBEq, Int.reduceLT, Int.reduceLE, Int.reduceEq, evh, evp, Nat.reduceLeDiff, Nat.reduceSub, Nat.reduceBEq, typs, r0, r1, r5, r6, e1, e2] | refine kCond2_by (fun hc => ?_) (fun hc => ?_) <;> try simp only [hc] | refine kPick_by (fun hc => ?_) (fun hc => ?_) <;> try simp only [hc] | refine kWant_by (fun hc => ?_) (fun hc => ?_) <;> try simp only [hc])
        have e2 : (R'.2 == 3) = false := by simp [h2]
        by_cases h3 : R.2 = 14
        · have e3 : (R.2 == 14) = true := by simp [h3]
          repeat' (first | simp only [evr, nextP_norm, evd, evq, beq_self_eq_true, cond_true, cond_false, reduceIte, Nat.reduceEqDiff, Nat.reduceAdd, Int.reduceBNe, Int.reduceBEq, Int.reduceLT, Int.reduceLE, Int.reduceEq, evh, evp, Nat.reduceLeDiff, Nat.reduceSub, Nat.reduceBEq, typs, r0, r1, r5, r6, e1, e2, e3] | refine kCond2_by (fun hc => ?_) (fun hc => ?_) <;> try simp only [hc] | refine kPick_by (fun hc => ?_) (fun hc => ?_) <;> try simp only [hc] | refine kWant_by (fun hc => ?_) (fun hc => ?_) <;> try simp only [hc])
        have e3 : (R.2 == 14) = false := by simp [h3]
        by_cases h4 : R'.2 = 14
        · have e4 : (R'.2 == 14) = true := by simp [h4]
          repeat' (first | simp only [evr, nextP_norm, evd, evq, beq_self_eq_true, cond_true, cond_false, reduceIte, Nat.reduceEqDiff, Nat.reduceAdd, Int.reduceBNe, Int.reduceBEq, Int.reduceLT, Int.reduceLE, Int.reduceEq, evh, evp, Nat.reduceLeDiff, Nat.reduceSub, Nat.reduceBEq, typs, r0, r1, r5, r6, e1, e2, e3, e4] | refine kCond2_by (fun hc => ?_) (fun hc => ?_) <;> try simp only [hc] | refine kPick_by (fun hc => ?_) (fun hc => ?_) <;> try simp only [hc] | refine kWant_by (fun hc => ?_) (fun hc => ?_) <;> try simp only [hc])
        have e4 : (R'.2 == 14) = false := by simp [h4]
        obtain rfl := root h1 h2 h4
        have q4 := rowOf_rw ((k6.2 _ (by omega)).trans ((k5.2 _ (by omega)).trans g4))
        have q6 := rowOf_rw g6
        repeat' (first | simp only [evr, nextP_norm, evd, evq, beq_self_eq_true, cond_true, cond_false, reduceIte, Nat.reduceEqDiff, Nat.reduceAdd, Int.reduceBNe, Int.reduceBEq, Int.reduceLT, Int.reduceLE, Int.reduceEq, evh, evp, Nat.reduceLeDiff, Nat.reduceSub, Nat.reduceBEq, typs, r0, r1, r5, r6, e1, e3] | refine kCond2_by (fun hc => ?_) (fun hc => ?_) <;> try simp only [hc] | refine kPick_by (fun hc => ?_) (fun hc => ?_) <;> try simp only [hc] | refine kWant_by (fun hc => ?_) (fun hc => ?_) <;> try simp only [hc])
        refine Wp_drawE [0, 0, 0, 0, 1, 3, 1, 4, 4, 0, 0] (KR.mk (by kernel_rfl)) ?_
        unfold bnC at q4 q6
        repeat' (first | simp only [evr, nextP_norm, evd, evq, beq_self_eq_true, cond_true, cond_false, reduceIte, Nat.reduceEqDiff, Nat.reduceAdd, Int.reduceBNe, Int.reduceBEq, Int.reduceLT, Int.reduceLE, Int.reduceEq, evh, evp, Nat.reduceLeDiff, Nat.reduceSub, Nat.reduceBEq, typs, r0, r1, r5, r6, q4, q6] | refine kCond2_by (fun hc => ?_) (fun hc => ?_) <;> try simp only [hc] | refine kPick_by (fun hc => ?_) (fun hc => ?_) <;> try simp only [hc] | refine kWant_by (fun hc => ?_) (fun hc => ?_) <;> try simp only [hc])
        have a3 := SlAt.keep (SlAt.keep (SlAt.keep ty3.slAt' k4) k5) k6
        have a5 := SlAt.keep ty5.slAt' k6
        have m1 := model_spec (h := H6) (x := R.1) a3
        unfold bnC at m1
        refine callP_meets m1 ?_
        rintro _ H7 ⟨rfl, k7⟩
        have q4' := (k7.row (by omega)).trans q4
        have q6' := (k7.row (by omega)).trans q6
        repeat' (first | simp only [evr, nextP_norm, evd, evq, beq_self_eq_true, cond_true, cond_false, reduceIte, Nat.reduceEqDiff, Nat.reduceAdd, Int.reduceBNe, Int.reduceBEq, Int.reduceLT, Int.reduceLE, Int.reduceEq, evh, evp, Nat.reduceLeDiff, Nat.reduceSub, Nat.reduceBEq, typs, r0, r1, r5, r6, q4, q6, q4', q6'] | refine kCond2_by (fun hc => ?_) (fun hc => ?_) <;> try simp only [hc] | refine kPick_by (fun hc => ?_) (fun hc => ?_) <;> try simp only [hc] | refine kWant_by (fun hc => ?_) (fun hc => ?_) <;> try simp only [hc])
        have m2 := model_spec (h := H7) (x := R.1) (SlAt.keep a5 k7)
        unfold bnC at m2
        refine callP_meets m2 ?_
        rintro _ H8 ⟨rfl, k8⟩
        have n7 := k7.1
        have q4'' := (k8.row (by omega)).trans q4'
        have q6'' := (k8.row (by omega)).trans q6'
        repeat' (first | simp only [evr, nextP_norm, evd, evq, beq_self_eq_true, cond_true, cond_false, reduceIte, Nat.reduceEqDiff, Nat.reduceAdd, Int.reduceBNe, Int.reduceBEq, Int.reduceLT, Int.reduceLE, Int.reduceEq, evh, evp, Nat.reduceLeDiff, Nat.reduceSub, Nat.reduceBEq, typs, r0, r1, r5, r6, q4, q6, q4', q6', q4'', q6''] | refine kCond2_by (fun hc => ?_) (fun hc => ?_) <;> try simp only [hc] | refine kPick_by (fun hc => ?_) (fun hc => ?_) <;> try simp only [hc] | refine kWant_by (fun hc => ?_) (fun hc => ?_) <;> try simp only [hc])
        have m3 := sameBranch_spec (SlAt.keep (SlAt.keep a3 k7) k8) (SlAt.keep (SlAt.keep a5 k7) k8) la la
        unfold bnC at m3
        refine callP_meets m3 ?_
        rintro _ H9 ⟨rfl, k9⟩
        have n8 := k8.1
        have q4x := (k9.row (by omega)).trans q4''
        have q6x := (k9.row (by omega)).trans q6''
        have tt : decide (R.1 = R.1) = true := decide_eq_true rfl
        repeat' (first | simp only [evr, nextP_norm, evd, evq, beq_self_eq_true, cond_true, cond_false, reduceIte, Nat.reduceEqDiff, Nat.reduceAdd, Int.reduceBNe, Int.reduceBEq, Int.reduceLT, Int.reduceLE, Int.reduceEq, evh, evp, Nat.reduceLeDiff, Nat.reduceSub, Nat.reduceBEq, typs, r0, r1, r5, r6, q4, q6, q4', q6', q4'', q6'', q4x, q6x, tt] | refine kCond2_by (fun hc => ?_) (fun hc => ?_) <;> try simp only [hc] | refine kPick_by (fun hc => ?_) (fun hc => ?_) <;> try simp only [hc] | refine kWant_by (fun hc => ?_) (fun hc => ?_) <;> try simp only [hc])
      · have f2 : ((T.add 0 nmUp lkUp).2.2 != 0) = true := by simp [he]
        repeat' (first | simp only [evr, nextP_norm, evd, evq, beq_self_eq_true, cond_true, cond_false, reduceIte, Nat.reduceEqDiff, Nat.reduceAdd, Int.reduceBNe, Int.reduceBEq, Int.reduceLT, Int.reduceLE, Int.reduceEq, evh, evp, Nat.reduceLeDiff, Nat.reduceSub, Nat.reduceBEq, typs, r0, r1, r5, r6, f2] | refine kCond2_by (fun hc => ?_) (fun hc => ?_) <;> try simp only [hc] | refine kPick_by (fun hc => ?_) (fun hc => ?_) <;> try simp only [hc] | refine kWant_by (fun hc => ?_) (fun hc => ?_) <;> try simp only [hc])
theorem walkRoot_law (W : World) (h : W.ShapedOpen Tryz.prog) {base : Nat} {v0 v1 : Value} (o0 : Value.okWide Tryz.prog W .any base 22 v0) (r0 : RdT Tryz.prog W 22 v0.cells.toList)
    (o1 : Value.okWide Tryz.prog W .any base 9 v1) (r1 : RdT Tryz.prog W 9 v1.cells.toList) :
    Calls Tryz.prog 3 #[v0, v1] W fun e w' => e = .returned (.bool true) ∧ Go.RowKit.Below W.heap.size W w' := by
  obtain ⟨a0, len0, cap0, rfl⟩ := Go.WideShapes.okWide_slice Tryz.underlying22 o0
  obtain ⟨u0, w0, l, hv0, _, ha0, hs0⟩ := dds_in h r0
  obtain rfl := slice_one hv0
  obtain ⟨s, rfl⟩ := rdStr r1 o1
  exact open_call (kon_from h) kon_mix (args := [.slice a0 len0 cap0, .string s]) (abs := [w0, .string s]) (absA_cons (x := .slice a0 len0 cap0) ha0 (absA_cons (x := .string s) rfl rfl)) (walkRoot_true hs0 s)
end Go.Proofs.YtncmgiddcefpcaaGreatDoor
namespace Go.Proofs.YtncmgiddcefpcaaGreatDoor
open Go
set_option maxRecDepth 100000
theorem fact1 : (laidOutB Tryz.pinned.checked.prog) = true := by kernel_rfl
theorem fact2 : (mapsRowed Tryz.pinned.checked.prog) = true := by kernel_rfl
theorem fact6 : ((Tryz.pinned.checked.prog.stops == [])) = true := by kernel_rfl
theorem fact8 : ((Tryz.pinned.checked.prog.stopKnobs == [])) = true := by kernel_rfl
theorem fact22 : ((Rows.judgeNowRow.plainKeys == Tryz.pinned.checked.prog.plainKeys)) = true := by kernel_rfl
theorem fact24 : (Tryz.pinned.checked.prog.stopsHeard) = true := by kernel_rfl
theorem fact25 : (Tryz.pinned.checked.prog.mayEnter) = true := by kernel_rfl
theorem fact26 : ((Rows.judgeNowRow.lifted == Tryz.pinned.checked.prog.liftsFinal)) = true := by kernel_rfl
theorem fact27 : ((Tryz.pinned.checked.prog.make == some Rows.judgeNowRow.make)) = true := by kernel_rfl
theorem factLooks : false = Tryz.pinned.checked.prog.looks [] := by kernel_rfl
theorem factMain : Tryz.pinned.checked.prog.mainIs = some (true, "e273f5272d88c497d37e9d766c9a4909ddf1804e3d7dd54ce4e691371479e93c".toList) := by kernel_rfl
end Go.Proofs.YtncmgiddcefpcaaGreatDoor
