/- The rules of operations at the types of this program: each closed fact found by evaluation. -/
import Derived.Test.YtncmgiddcefpcaaDoorEvM3
import Derived.Test.YtncmgiddcefpcaaDoorEvM4
import Derived.Test.YtncmgiddcefpcaaDoorCtx0
namespace Go.Proofs.YtncmgiddcefpcaaDoor
open Go Go.Ev
set_option maxRecDepth 100000
theorem typ1 : type_of% (
  And.intro (L_len (C := kon) (t := 9) (by kernel_rfl)) <|
  And.intro (L_lenStr (C := kon) (t := 9) (by kernel_rfl)) <|
  And.intro (L_bin (C := kon) (t := 3) (by kernel_rfl)) <|
  And.intro (L_bin (C := kon) (t := 4) (by kernel_rfl)) <|
  And.intro (show ∀ (x y : Operand) (a c : Bool), evBin kon.P .neq 4 x y (.bool a) (.bool c) = some (.bool (!(a == c))) from by intros; kernel_rfl) <|
  And.intro (L_len (C := kon) (t := 23) (by kernel_rfl)) <|
  And.intro (L_lenSl (C := kon) (t := 23) (e := 9) (by kernel_rfl)) <|
  And.intro (L_bin (C := kon) (t := 9) (by kernel_rfl)) <|
  And.intro (L_bin (C := kon) (t := 24) (by kernel_rfl)) <|
  And.intro (L_sliceSl (C := kon) (t := 23) (e := 9) (n := 1) (by kernel_rfl) (by kernel_rfl)) <|
  And.intro (L_indexAddr (C := kon) (t := 23) (e := 9) (n := 1) (by kernel_rfl) (by kernel_rfl)) <|
  And.intro (L_loadC (C := kon) (t := 9) (by kernel_rfl)) <|
  And.intro (show ∀ (x y : Operand) (a c : Bool), evBin kon.P .eql 4 x y (.bool a) (.bool c) = some (.bool (a == c)) from by intros; kernel_rfl) <|
  And.intro (L_buildSlice (C := kon) (t := 23) (e := 9) (n := 1) (z := (.string ByteArray.empty)) (zs := [.string ByteArray.empty]) (len := 7) (by kernel_rfl) (by kernel_rfl) (by kernel_rfl) (by kernel_rfl) (by kernel_rfl) (by kernel_rfl)) <|
  And.intro (show ∀ (s1 : ByteArray) (s2 : ByteArray) (s3 : ByteArray) (s4 : ByteArray) (s5 : ByteArray) (s6 : ByteArray) (s7 : ByteArray), litRow 9 1 7 [.string ByteArray.empty] [(0, (.string s1)), (1, (.string s2)), (2, (.string s3)), (3, (.string s4)), (4, (.string s5)), (5, (.string s6)), (6, (.string s7))] = some (mkRow 9 7 [.string s1, .string s2, .string s3, .string s4, .string s5, .string s6, .string s7]) from by intros; kernel_rfl) <|
  And.intro (L_buildSlice (C := kon) (t := 23) (e := 9) (n := 1) (z := (.string ByteArray.empty)) (zs := [.string ByteArray.empty]) (len := 8) (by kernel_rfl) (by kernel_rfl) (by kernel_rfl) (by kernel_rfl) (by kernel_rfl) (by kernel_rfl)) <|
  And.intro (show ∀ (s1 : ByteArray) (s2 : ByteArray) (s3 : ByteArray) (s4 : ByteArray) (s5 : ByteArray) (s6 : ByteArray) (s7 : ByteArray) (s8 : ByteArray), litRow 9 1 8 [.string ByteArray.empty] [(0, (.string s1)), (1, (.string s2)), (2, (.string s3)), (3, (.string s4)), (4, (.string s5)), (5, (.string s6)), (6, (.string s7)), (7, (.string s8))] = some (mkRow 9 8 [.string s1, .string s2, .string s3, .string s4, .string s5, .string s6, .string s7, .string s8]) from by intros; kernel_rfl) <|
  And.intro (L_convInt (C := kon) (s := 5) (t := 3) (k := .i64) (by kernel_rfl) (by kernel_rfl)) <|
  And.intro (show ∀ (n : Int), prunS kon.P (convert 5 3 (.int .u8 n)) = some (.int .i64 (IntKind.i64.wrap n)) from by intros; kernel_rfl) <|
  And.intro (L_indexAddr (C := kon) (t := 35) (e := 5) (n := 1) (by kernel_rfl) (by kernel_rfl)) <|
  And.intro (L_store (C := kon) (t := 5) (n := 1) (by kernel_rfl)) <|
  And.intro (L_bin (C := kon) (t := 5) (by kernel_rfl)) <|
  And.intro (L_convBytes (C := kon) (s := 35) (t := 9) (e := 5) (by kernel_rfl)) <|
  And.intro (L_cmp (C := kon) (t := 40) (by kernel_rfl) (op := .eql) rfl) <|
  And.intro (L_cmpE (C := kon) (t := 40) (by kernel_rfl)) <|
  And.intro (show ∀ (x y : Operand) (h : Hp) (p i : Nat), cmpV kon.P .eql 40 x y h (.pointer (some ⟨p, i, none⟩)) (.pointer (none)) = some (.bool false) from by intros; kernel_rfl) <|
  And.intro (show ∀ (x y : Operand) (h : Hp) (p i : Nat), cmpV kon.P .eql 40 x y h (.pointer (none)) (.pointer (some ⟨p, i, none⟩)) = some (.bool false) from by intros; kernel_rfl) <|
  And.intro (show ∀ (x y : Operand) (h : Hp), cmpV kon.P .eql 40 x y h (.pointer (none)) (.pointer (none)) = some (.bool true) from by intros; kernel_rfl) <|
  And.intro (L_len (C := kon) (t := 37) (by kernel_rfl)) <|
  And.intro (L_lenSl (C := kon) (t := 37) (e := 64) (by kernel_rfl)) <|
  And.intro (L_cmp (C := kon) (t := 40) (by kernel_rfl) (op := .neq) rfl) <|
  And.intro (L_cmpN (C := kon) (t := 40) (by kernel_rfl)) <|
  And.intro (show ∀ (x y : Operand) (h : Hp) (p i : Nat), cmpV kon.P .neq 40 x y h (.pointer (some ⟨p, i, none⟩)) (.pointer (none)) = some (.bool true) from by intros; kernel_rfl) <|
  And.intro (show ∀ (x y : Operand) (h : Hp) (p i : Nat), cmpV kon.P .neq 40 x y h (.pointer (none)) (.pointer (some ⟨p, i, none⟩)) = some (.bool true) from by intros; kernel_rfl) <|
  And.intro (show ∀ (x y : Operand) (h : Hp), cmpV kon.P .neq 40 x y h (.pointer (none)) (.pointer (none)) = some (.bool false) from by intros; kernel_rfl) <|
  And.intro (L_convInt (C := kon) (s := 3) (t := 5) (k := .u8) (by kernel_rfl) (by kernel_rfl)) <|
  And.intro (show ∀ (n : Int), prunS kon.P (convert 3 5 (.int .i64 n)) = some (.int .u8 (IntKind.u8.wrap n)) from by intros; kernel_rfl) <|
  And.intro (L_buildSlice (C := kon) (t := 35) (e := 5) (n := 1) (z := (.int .u8 0)) (zs := [.int .u8 0]) (len := 1) (by kernel_rfl) (by kernel_rfl) (by kernel_rfl) (by kernel_rfl) (by kernel_rfl) (by kernel_rfl)) <|
  And.intro (show ∀ (n1 : Int), litRow 5 1 1 [.int .u8 0] [(0, (.int .u8 n1))] = some (mkRow 5 1 [.int .u8 n1]) from by intros; kernel_rfl) <|
  (show ∀ (n1 : Int) (n2 : Int), evBuild kon.P 45 [(0, (.int .i64 n1)), (1, (.int .i64 n2))] = some (.agg #[.int .i64 n1, .int .i64 n2, .int .i64 0, .string ByteArray.empty, .bool false, .slice none 0 0, .int .i64 0, .int .i64 0, .int .i64 0, .int .i64 0]) from by intros; kernel_rfl)) :=
  And.intro (L_len (C := kon) (t := 9) (by kernel_rfl)) <|
  And.intro (L_lenStr (C := kon) (t := 9) (by kernel_rfl)) <|
  And.intro (L_bin (C := kon) (t := 3) (by kernel_rfl)) <|
  And.intro (L_bin (C := kon) (t := 4) (by kernel_rfl)) <|
  And.intro (show ∀ (x y : Operand) (a c : Bool), evBin kon.P .neq 4 x y (.bool a) (.bool c) = some (.bool (!(a == c))) from by intros; kernel_rfl) <|
  And.intro (L_len (C := kon) (t := 23) (by kernel_rfl)) <|
  And.intro (L_lenSl (C := kon) (t := 23) (e := 9) (by kernel_rfl)) <|
  And.intro (L_bin (C := kon) (t := 9) (by kernel_rfl)) <|
  And.intro (L_bin (C := kon) (t := 24) (by kernel_rfl)) <|
  And.intro (L_sliceSl (C := kon) (t := 23) (e := 9) (n := 1) (by kernel_rfl) (by kernel_rfl)) <|
  And.intro (L_indexAddr (C := kon) (t := 23) (e := 9) (n := 1) (by kernel_rfl) (by kernel_rfl)) <|
  And.intro (L_loadC (C := kon) (t := 9) (by kernel_rfl)) <|
  And.intro (show ∀ (x y : Operand) (a c : Bool), evBin kon.P .eql 4 x y (.bool a) (.bool c) = some (.bool (a == c)) from by intros; kernel_rfl) <|
  And.intro (L_buildSlice (C := kon) (t := 23) (e := 9) (n := 1) (z := (.string ByteArray.empty)) (zs := [.string ByteArray.empty]) (len := 7) (by kernel_rfl) (by kernel_rfl) (by kernel_rfl) (by kernel_rfl) (by kernel_rfl) (by kernel_rfl)) <|
  And.intro (show ∀ (s1 : ByteArray) (s2 : ByteArray) (s3 : ByteArray) (s4 : ByteArray) (s5 : ByteArray) (s6 : ByteArray) (s7 : ByteArray), litRow 9 1 7 [.string ByteArray.empty] [(0, (.string s1)), (1, (.string s2)), (2, (.string s3)), (3, (.string s4)), (4, (.string s5)), (5, (.string s6)), (6, (.string s7))] = some (mkRow 9 7 [.string s1, .string s2, .string s3, .string s4, .string s5, .string s6, .string s7]) from by intros; kernel_rfl) <|
  And.intro (L_buildSlice (C := kon) (t := 23) (e := 9) (n := 1) (z := (.string ByteArray.empty)) (zs := [.string ByteArray.empty]) (len := 8) (by kernel_rfl) (by kernel_rfl) (by kernel_rfl) (by kernel_rfl) (by kernel_rfl) (by kernel_rfl)) <|
  And.intro (show ∀ (s1 : ByteArray) (s2 : ByteArray) (s3 : ByteArray) (s4 : ByteArray) (s5 : ByteArray) (s6 : ByteArray) (s7 : ByteArray) (s8 : ByteArray), litRow 9 1 8 [.string ByteArray.empty] [(0, (.string s1)), (1, (.string s2)), (2, (.string s3)), (3, (.string s4)), (4, (.string s5)), (5, (.string s6)), (6, (.string s7)), (7, (.string s8))] = some (mkRow 9 8 [.string s1, .string s2, .string s3, .string s4, .string s5, .string s6, .string s7, .string s8]) from by intros; kernel_rfl) <|
  And.intro (L_convInt (C := kon) (s := 5) (t := 3) (k := .i64) (by kernel_rfl) (by kernel_rfl)) <|
  And.intro (show ∀ (n : Int), prunS kon.P (convert 5 3 (.int .u8 n)) = some (.int .i64 (IntKind.i64.wrap n)) from by intros; kernel_rfl) <|
  And.intro (L_indexAddr (C := kon) (t := 35) (e := 5) (n := 1) (by kernel_rfl) (by kernel_rfl)) <|
  And.intro (L_store (C := kon) (t := 5) (n := 1) (by kernel_rfl)) <|
  And.intro (L_bin (C := kon) (t := 5) (by kernel_rfl)) <|
  And.intro (L_convBytes (C := kon) (s := 35) (t := 9) (e := 5) (by kernel_rfl)) <|
  And.intro (L_cmp (C := kon) (t := 40) (by kernel_rfl) (op := .eql) rfl) <|
  And.intro (L_cmpE (C := kon) (t := 40) (by kernel_rfl)) <|
  And.intro (show ∀ (x y : Operand) (h : Hp) (p i : Nat), cmpV kon.P .eql 40 x y h (.pointer (some ⟨p, i, none⟩)) (.pointer (none)) = some (.bool false) from by intros; kernel_rfl) <|
  And.intro (show ∀ (x y : Operand) (h : Hp) (p i : Nat), cmpV kon.P .eql 40 x y h (.pointer (none)) (.pointer (some ⟨p, i, none⟩)) = some (.bool false) from by intros; kernel_rfl) <|
  And.intro (show ∀ (x y : Operand) (h : Hp), cmpV kon.P .eql 40 x y h (.pointer (none)) (.pointer (none)) = some (.bool true) from by intros; kernel_rfl) <|
  And.intro (L_len (C := kon) (t := 37) (by kernel_rfl)) <|
  And.intro (L_lenSl (C := kon) (t := 37) (e := 64) (by kernel_rfl)) <|
  And.intro (L_cmp (C := kon) (t := 40) (by kernel_rfl) (op := .neq) rfl) <|
  And.intro (L_cmpN (C := kon) (t := 40) (by kernel_rfl)) <|
  And.intro (show ∀ (x y : Operand) (h : Hp) (p i : Nat), cmpV kon.P .neq 40 x y h (.pointer (some ⟨p, i, none⟩)) (.pointer (none)) = some (.bool true) from by intros; kernel_rfl) <|
  And.intro (show ∀ (x y : Operand) (h : Hp) (p i : Nat), cmpV kon.P .neq 40 x y h (.pointer (none)) (.pointer (some ⟨p, i, none⟩)) = some (.bool true) from by intros; kernel_rfl) <|
  And.intro (show ∀ (x y : Operand) (h : Hp), cmpV kon.P .neq 40 x y h (.pointer (none)) (.pointer (none)) = some (.bool false) from by intros; kernel_rfl) <|
  And.intro (L_convInt (C := kon) (s := 3) (t := 5) (k := .u8) (by kernel_rfl) (by kernel_rfl)) <|
  And.intro (show ∀ (n : Int), prunS kon.P (convert 3 5 (.int .i64 n)) = some (.int .u8 (IntKind.u8.wrap n)) from by intros; kernel_rfl) <|
  And.intro (L_buildSlice (C := kon) (t := 35) (e := 5) (n := 1) (z := (.int .u8 0)) (zs := [.int .u8 0]) (len := 1) (by kernel_rfl) (by kernel_rfl) (by kernel_rfl) (by kernel_rfl) (by kernel_rfl) (by kernel_rfl)) <|
  And.intro (show ∀ (n1 : Int), litRow 5 1 1 [.int .u8 0] [(0, (.int .u8 n1))] = some (mkRow 5 1 [.int .u8 n1]) from by intros; kernel_rfl) <|
  (show ∀ (n1 : Int) (n2 : Int), evBuild kon.P 45 [(0, (.int .i64 n1)), (1, (.int .i64 n2))] = some (.agg #[.int .i64 n1, .int .i64 n2, .int .i64 0, .string ByteArray.empty, .bool false, .slice none 0 0, .int .i64 0, .int .i64 0, .int .i64 0, .int .i64 0]) from by intros; kernel_rfl)
theorem typ2 : type_of% (
  And.intro (L_loadA (C := kon) (t := 39) (n := 4) (by kernel_rfl) (by kernel_rfl)) <|
  And.intro (L_alloc (C := kon) (t := 45) (z := (.agg #[.int .i64 0, .int .i64 0, .int .i64 0, .string ByteArray.empty, .bool false, .slice none 0 0, .int .i64 0, .int .i64 0, .int .i64 0, .int .i64 0])) (cs := [.int .i64 0, .int .i64 0, .int .i64 0, .string ByteArray.empty, .bool false, .slice none 0 0, .int .i64 0, .int .i64 0, .int .i64 0, .int .i64 0]) (by kernel_rfl) (by kernel_rfl) (by kernel_rfl)) <|
  And.intro (L_store (C := kon) (t := 45) (n := 10) (by kernel_rfl)) <|
  And.intro (show ∀ (b o : Nat), evFieldAddr kon.P 45 (.pointer (some ⟨b, o, none⟩)) 1 = some (.pointer (some ⟨b, o + 1, none⟩)) from by intros; kernel_rfl) <|
  And.intro (L_loadC (C := kon) (t := 3) (by kernel_rfl)) <|
  And.intro (show ∀ (b o : Nat), evFieldAddr kon.P 45 (.pointer (some ⟨b, o, none⟩)) 6 = some (.pointer (some ⟨b, o + 6, none⟩)) from by intros; kernel_rfl) <|
  And.intro (L_bin (C := kon) (t := 39) (by kernel_rfl)) <|
  And.intro (show ∀ (b o : Nat), evFieldAddr kon.P 45 (.pointer (some ⟨b, o, none⟩)) 5 = some (.pointer (some ⟨b, o + 5, none⟩)) from by intros; kernel_rfl) <|
  And.intro (L_loadC (C := kon) (t := 37) (by kernel_rfl)) <|
  And.intro (show evBuild kon.P 39 [] = some (.agg #[.int .i64 0, .int .i64 0, .int .i64 0, .int .i64 0]) from by intros; kernel_rfl) <|
  And.intro (show ∀ (n1 : Int) (s2 : ByteArray), evBuild kon.P 45 [(0, (.int .i64 n1)), (3, (.string s2))] = some (.agg #[.int .i64 n1, .int .i64 0, .int .i64 0, .string s2, .bool false, .slice none 0 0, .int .i64 0, .int .i64 0, .int .i64 0, .int .i64 0]) from by intros; kernel_rfl) <|
  And.intro (show ∀ (b o : Nat), evFieldAddr kon.P 45 (.pointer (some ⟨b, o, none⟩)) 0 = some (.pointer (some ⟨b, o + 0, none⟩)) from by intros; kernel_rfl) <|
  And.intro (show ∀ (n1 : Int), evBuild kon.P 45 [(0, (.int .i64 n1))] = some (.agg #[.int .i64 n1, .int .i64 0, .int .i64 0, .string ByteArray.empty, .bool false, .slice none 0 0, .int .i64 0, .int .i64 0, .int .i64 0, .int .i64 0]) from by intros; kernel_rfl) <|
  And.intro (show ∀ (b o : Nat), evFieldAddr kon.P 45 (.pointer (some ⟨b, o, none⟩)) 2 = some (.pointer (some ⟨b, o + 2, none⟩)) from by intros; kernel_rfl) <|
  And.intro (show ∀ (b1 : Bool) (b2 : Bool) (b3 : Bool), evBuild kon.P 62 [(0, (.bool b1)), (1, (.bool b2)), (2, (.bool b3))] = some (.agg #[.bool b1, .bool b2, .bool b3]) from by intros; kernel_rfl) <|
  And.intro (L_alloc (C := kon) (t := 62) (z := (.agg #[.bool false, .bool false, .bool false])) (cs := [.bool false, .bool false, .bool false]) (by kernel_rfl) (by kernel_rfl) (by kernel_rfl)) <|
  And.intro (L_store (C := kon) (t := 62) (n := 3) (by kernel_rfl)) <|
  And.intro (L_loadA (C := kon) (t := 62) (n := 3) (by kernel_rfl) (by kernel_rfl)) <|
  And.intro (show ∀ (s1 : ByteArray) (b2 : Bool) (b3 : Bool) (b4 : Bool), evBuild kon.P 64 [(0, (.string s1)), (1, (.agg #[.bool b2, .bool b3, .bool b4]))] = some (.agg #[.string s1, .bool b2, .bool b3, .bool b4]) from by intros; kernel_rfl) <|
  And.intro (L_buildSlice (C := kon) (t := 37) (e := 64) (n := 4) (z := (.agg #[.string ByteArray.empty, .bool false, .bool false, .bool false])) (zs := [.string ByteArray.empty, .bool false, .bool false, .bool false]) (len := 1) (by kernel_rfl) (by kernel_rfl) (by kernel_rfl) (by kernel_rfl) (by kernel_rfl) (by kernel_rfl)) <|
  And.intro (show ∀ (s1 : ByteArray) (b2 : Bool) (b3 : Bool) (b4 : Bool), litRow 64 4 1 [.string ByteArray.empty, .bool false, .bool false, .bool false] [(0, (.agg #[.string s1, .bool b2, .bool b3, .bool b4]))] = some (mkRow 64 1 [.string s1, .bool b2, .bool b3, .bool b4]) from by intros; kernel_rfl) <|
  And.intro (show ∀ (n1 : Int) (n2 : Int) (n3 : Int) (n4 : Int), evBuild kon.P 39 [(0, (.int .i64 n1)), (1, (.int .i64 n2)), (2, (.int .i64 n3)), (3, (.int .i64 n4))] = some (.agg #[.int .i64 n1, .int .i64 n2, .int .i64 n3, .int .i64 n4]) from by intros; kernel_rfl) <|
  And.intro (show ∀ (n1 : Int) (n2 : Int) (a3 : Option Addr) (k4 : Nat) (k5 : Nat) (n6 : Int) (n7 : Int) (n8 : Int) (n9 : Int), evBuild kon.P 45 [(0, (.int .i64 n1)), (1, (.int .i64 n2)), (5, (.slice a3 k4 k5)), (6, (.agg #[.int .i64 n6, .int .i64 n7, .int .i64 n8, .int .i64 n9]))] = some (.agg #[.int .i64 n1, .int .i64 n2, .int .i64 0, .string ByteArray.empty, .bool false, .slice a3 k4 k5, .int .i64 n6, .int .i64 n7, .int .i64 n8, .int .i64 n9]) from by intros; kernel_rfl) <|
  And.intro (show ∀ (n1 : Int) (n2 : Int) (n3 : Int), evBuild kon.P 39 [(0, (.int .i64 n1)), (1, (.int .i64 n2)), (2, (.int .i64 n3))] = some (.agg #[.int .i64 n1, .int .i64 n2, .int .i64 n3, .int .i64 0]) from by intros; kernel_rfl) <|
  And.intro (show ∀ (n1 : Int) (n2 : Int) (b3 : Bool) (a4 : Option Addr) (k5 : Nat) (k6 : Nat) (n7 : Int) (n8 : Int) (n9 : Int) (n10 : Int), evBuild kon.P 45 [(0, (.int .i64 n1)), (1, (.int .i64 n2)), (4, (.bool b3)), (5, (.slice a4 k5 k6)), (6, (.agg #[.int .i64 n7, .int .i64 n8, .int .i64 n9, .int .i64 n10]))] = some (.agg #[.int .i64 n1, .int .i64 n2, .int .i64 0, .string ByteArray.empty, .bool b3, .slice a4 k5 k6, .int .i64 n7, .int .i64 n8, .int .i64 n9, .int .i64 n10]) from by intros; kernel_rfl) <|
  And.intro (show ∀ (n1 : Int) (n2 : Int) (n3 : Int) (n4 : Int) (n5 : Int), evBuild kon.P 66 [(1, (.int .i64 n1)), (2, (.int .i64 n2)), (4, (.int .i64 n3)), (5, (.int .i64 n4)), (6, (.int .i64 n5))] = some (.agg #[.int .i64 0, .int .i64 n1, .int .i64 n2, .int .i64 0, .int .i64 n3, .int .i64 n4, .int .i64 n5]) from by intros; kernel_rfl) <|
  And.intro (show ∀ (n1 : Int) (n2 : Int) (n3 : Int) (n4 : Int) (n5 : Int) (n6 : Int), evBuild kon.P 66 [(1, (.int .i64 n1)), (2, (.int .i64 n2)), (3, (.int .i64 n3)), (4, (.int .i64 n4)), (5, (.int .i64 n5)), (6, (.int .i64 n6))] = some (.agg #[.int .i64 0, .int .i64 n1, .int .i64 n2, .int .i64 n3, .int .i64 n4, .int .i64 n5, .int .i64 n6]) from by intros; kernel_rfl) <|
  And.intro (L_buildSlice (C := kon) (t := 67) (e := 66) (n := 7) (z := (.agg #[.int .i64 0, .int .i64 0, .int .i64 0, .int .i64 0, .int .i64 0, .int .i64 0, .int .i64 0])) (zs := [.int .i64 0, .int .i64 0, .int .i64 0, .int .i64 0, .int .i64 0, .int .i64 0, .int .i64 0]) (len := 6) (by kernel_rfl) (by kernel_rfl) (by kernel_rfl) (by kernel_rfl) (by kernel_rfl) (by kernel_rfl)) <|
  And.intro (show ∀ (n1 : Int) (n2 : Int) (n3 : Int) (n4 : Int) (n5 : Int) (n6 : Int) (n7 : Int) (n8 : Int) (n9 : Int) (n10 : Int) (n11 : Int) (n12 : Int) (n13 : Int) (n14 : Int) (n15 : Int) (n16 : Int) (n17 : Int) (n18 : Int) (n19 : Int) (n20 : Int) (n21 : Int) (n22 : Int) (n23 : Int) (n24 : Int) (n25 : Int) (n26 : Int) (n27 : Int) (n28 : Int) (n29 : Int) (n30 : Int) (n31 : Int) (n32 : Int) (n33 : Int) (n34 : Int) (n35 : Int) (n36 : Int) (n37 : Int) (n38 : Int) (n39 : Int) (n40 : Int) (n41 : Int) (n42 : Int), litRow 66 7 6 [.int .i64 0, .int .i64 0, .int .i64 0, .int .i64 0, .int .i64 0, .int .i64 0, .int .i64 0] [(0, (.agg #[.int .i64 n1, .int .i64 n2, .int .i64 n3, .int .i64 n4, .int .i64 n5, .int .i64 n6, .int .i64 n7])), (1, (.agg #[.int .i64 n8, .int .i64 n9, .int .i64 n10, .int .i64 n11, .int .i64 n12, .int .i64 n13, .int .i64 n14])), (2, (.agg #[.int .i64 n15, .int .i64 n16, .int .i64 n17, .int .i64 n18, .int .i64 n19, .int .i64 n20, .int .i64 n21])), (3, (.agg #[.int .i64 n22, .int .i64 n23, .int .i64 n24, .int .i64 n25, .int .i64 n26, .int .i64 n27, .int .i64 n28])), (4, (.agg #[.int .i64 n29, .int .i64 n30, .int .i64 n31, .int .i64 n32, .int .i64 n33, .int .i64 n34, .int .i64 n35])), (5, (.agg #[.int .i64 n36, .int .i64 n37, .int .i64 n38, .int .i64 n39, .int .i64 n40, .int .i64 n41, .int .i64 n42]))] = some (mkRow 66 6 [.int .i64 n1, .int .i64 n2, .int .i64 n3, .int .i64 n4, .int .i64 n5, .int .i64 n6, .int .i64 n7, .int .i64 n8, .int .i64 n9, .int .i64 n10, .int .i64 n11, .int .i64 n12, .int .i64 n13, .int .i64 n14, .int .i64 n15, .int .i64 n16, .int .i64 n17, .int .i64 n18, .int .i64 n19, .int .i64 n20, .int .i64 n21, .int .i64 n22, .int .i64 n23, .int .i64 n24, .int .i64 n25, .int .i64 n26, .int .i64 n27, .int .i64 n28, .int .i64 n29, .int .i64 n30, .int .i64 n31, .int .i64 n32, .int .i64 n33, .int .i64 n34, .int .i64 n35, .int .i64 n36, .int .i64 n37, .int .i64 n38, .int .i64 n39, .int .i64 n40, .int .i64 n41, .int .i64 n42]) from by intros; kernel_rfl) <|
  And.intro (show evBuild kon.P 66 [] = some (.agg #[.int .i64 0, .int .i64 0, .int .i64 0, .int .i64 0, .int .i64 0, .int .i64 0, .int .i64 0]) from by intros; kernel_rfl) <|
  And.intro (show ∀ (n1 : Int) (n2 : Int) (n3 : Int) (n4 : Int), evBuild kon.P 66 [(1, (.int .i64 n1)), (2, (.int .i64 n2)), (0, (.int .i64 n3)), (4, (.int .i64 n4))] = some (.agg #[.int .i64 n3, .int .i64 n1, .int .i64 n2, .int .i64 0, .int .i64 n4, .int .i64 0, .int .i64 0]) from by intros; kernel_rfl) <|
  And.intro (show ∀ (n1 : Int) (n2 : Int) (n3 : Int), evBuild kon.P 66 [(1, (.int .i64 n1)), (2, (.int .i64 n2)), (4, (.int .i64 n3))] = some (.agg #[.int .i64 0, .int .i64 n1, .int .i64 n2, .int .i64 0, .int .i64 n3, .int .i64 0, .int .i64 0]) from by intros; kernel_rfl) <|
  And.intro (show ∀ (n1 : Int) (n2 : Int), evBuild kon.P 66 [(1, (.int .i64 n1)), (2, (.int .i64 n2))] = some (.agg #[.int .i64 0, .int .i64 n1, .int .i64 n2, .int .i64 0, .int .i64 0, .int .i64 0, .int .i64 0]) from by intros; kernel_rfl) <|
  And.intro (L_buildSlice (C := kon) (t := 67) (e := 66) (n := 7) (z := (.agg #[.int .i64 0, .int .i64 0, .int .i64 0, .int .i64 0, .int .i64 0, .int .i64 0, .int .i64 0])) (zs := [.int .i64 0, .int .i64 0, .int .i64 0, .int .i64 0, .int .i64 0, .int .i64 0, .int .i64 0]) (len := 12) (by kernel_rfl) (by kernel_rfl) (by kernel_rfl) (by kernel_rfl) (by kernel_rfl) (by kernel_rfl)) <|
  And.intro (L_buildSlice (C := kon) (t := 23) (e := 9) (n := 1) (z := (.string ByteArray.empty)) (zs := [.string ByteArray.empty]) (len := 1) (by kernel_rfl) (by kernel_rfl) (by kernel_rfl) (by kernel_rfl) (by kernel_rfl) (by kernel_rfl)) <|
  And.intro (show ∀ (s1 : ByteArray), litRow 9 1 1 [.string ByteArray.empty] [(0, (.string s1))] = some (mkRow 9 1 [.string s1]) from by intros; kernel_rfl) <|
  And.intro (L_len (C := kon) (t := 67) (by kernel_rfl)) <|
  And.intro (L_lenSl (C := kon) (t := 67) (e := 66) (by kernel_rfl)) <|
  And.intro (L_buildSlice (C := kon) (t := 67) (e := 66) (n := 7) (z := (.agg #[.int .i64 0, .int .i64 0, .int .i64 0, .int .i64 0, .int .i64 0, .int .i64 0, .int .i64 0])) (zs := [.int .i64 0, .int .i64 0, .int .i64 0, .int .i64 0, .int .i64 0, .int .i64 0, .int .i64 0]) (len := 0) (by kernel_rfl) (by kernel_rfl) (by kernel_rfl) (by kernel_rfl) (by kernel_rfl) (by kernel_rfl)) <|
  (show litRow 66 7 0 [.int .i64 0, .int .i64 0, .int .i64 0, .int .i64 0, .int .i64 0, .int .i64 0, .int .i64 0] [] = some (mkRow 66 0 []) from by intros; kernel_rfl)) :=
  And.intro (L_loadA (C := kon) (t := 39) (n := 4) (by kernel_rfl) (by kernel_rfl)) <|
  And.intro (L_alloc (C := kon) (t := 45) (z := (.agg #[.int .i64 0, .int .i64 0, .int .i64 0, .string ByteArray.empty, .bool false, .slice none 0 0, .int .i64 0, .int .i64 0, .int .i64 0, .int .i64 0])) (cs := [.int .i64 0, .int .i64 0, .int .i64 0, .string ByteArray.empty, .bool false, .slice none 0 0, .int .i64 0, .int .i64 0, .int .i64 0, .int .i64 0]) (by kernel_rfl) (by kernel_rfl) (by kernel_rfl)) <|
  And.intro (L_store (C := kon) (t := 45) (n := 10) (by kernel_rfl)) <|
  And.intro (show ∀ (b o : Nat), evFieldAddr kon.P 45 (.pointer (some ⟨b, o, none⟩)) 1 = some (.pointer (some ⟨b, o + 1, none⟩)) from by intros; kernel_rfl) <|
  And.intro (L_loadC (C := kon) (t := 3) (by kernel_rfl)) <|
  And.intro (show ∀ (b o : Nat), evFieldAddr kon.P 45 (.pointer (some ⟨b, o, none⟩)) 6 = some (.pointer (some ⟨b, o + 6, none⟩)) from by intros; kernel_rfl) <|
  And.intro (L_bin (C := kon) (t := 39) (by kernel_rfl)) <|
  And.intro (show ∀ (b o : Nat), evFieldAddr kon.P 45 (.pointer (some ⟨b, o, none⟩)) 5 = some (.pointer (some ⟨b, o + 5, none⟩)) from by intros; kernel_rfl) <|
  And.intro (L_loadC (C := kon) (t := 37) (by kernel_rfl)) <|
  And.intro (show evBuild kon.P 39 [] = some (.agg #[.int .i64 0, .int .i64 0, .int .i64 0, .int .i64 0]) from by intros; kernel_rfl) <|
  And.intro (show ∀ (n1 : Int) (s2 : ByteArray), evBuild kon.P 45 [(0, (.int .i64 n1)), (3, (.string s2))] = some (.agg #[.int .i64 n1, .int .i64 0, .int .i64 0, .string s2, .bool false, .slice none 0 0, .int .i64 0, .int .i64 0, .int .i64 0, .int .i64 0]) from by intros; kernel_rfl) <|
  And.intro (show ∀ (b o : Nat), evFieldAddr kon.P 45 (.pointer (some ⟨b, o, none⟩)) 0 = some (.pointer (some ⟨b, o + 0, none⟩)) from by intros; kernel_rfl) <|
  And.intro (show ∀ (n1 : Int), evBuild kon.P 45 [(0, (.int .i64 n1))] = some (.agg #[.int .i64 n1, .int .i64 0, .int .i64 0, .string ByteArray.empty, .bool false, .slice none 0 0, .int .i64 0, .int .i64 0, .int .i64 0, .int .i64 0]) from by intros; kernel_rfl) <|
  And.intro (show ∀ (b o : Nat), evFieldAddr kon.P 45 (.pointer (some ⟨b, o, none⟩)) 2 = some (.pointer (some ⟨b, o + 2, none⟩)) from by intros; kernel_rfl) <|
  And.intro (show ∀ (b1 : Bool) (b2 : Bool) (b3 : Bool), evBuild kon.P 62 [(0, (.bool b1)), (1, (.bool b2)), (2, (.bool b3))] = some (.agg #[.bool b1, .bool b2, .bool b3]) from by intros; kernel_rfl) <|
  And.intro (L_alloc (C := kon) (t := 62) (z := (.agg #[.bool false, .bool false, .bool false])) (cs := [.bool false, .bool false, .bool false]) (by kernel_rfl) (by kernel_rfl) (by kernel_rfl)) <|
  And.intro (L_store (C := kon) (t := 62) (n := 3) (by kernel_rfl)) <|
  And.intro (L_loadA (C := kon) (t := 62) (n := 3) (by kernel_rfl) (by kernel_rfl)) <|
  And.intro (show ∀ (s1 : ByteArray) (b2 : Bool) (b3 : Bool) (b4 : Bool), evBuild kon.P 64 [(0, (.string s1)), (1, (.agg #[.bool b2, .bool b3, .bool b4]))] = some (.agg #[.string s1, .bool b2, .bool b3, .bool b4]) from by intros; kernel_rfl) <|
  And.intro (L_buildSlice (C := kon) (t := 37) (e := 64) (n := 4) (z := (.agg #[.string ByteArray.empty, .bool false, .bool false, .bool false])) (zs := [.string ByteArray.empty, .bool false, .bool false, .bool false]) (len := 1) (by kernel_rfl) (by kernel_rfl) (by kernel_rfl) (by kernel_rfl) (by kernel_rfl) (by kernel_rfl)) <|
  And.intro (show ∀ (s1 : ByteArray) (b2 : Bool) (b3 : Bool) (b4 : Bool), litRow 64 4 1 [.string ByteArray.empty, .bool false, .bool false, .bool false] [(0, (.agg #[.string s1, .bool b2, .bool b3, .bool b4]))] = some (mkRow 64 1 [.string s1, .bool b2, .bool b3, .bool b4]) from by intros; kernel_rfl) <|
  And.intro (show ∀ (n1 : Int) (n2 : Int) (n3 : Int) (n4 : Int), evBuild kon.P 39 [(0, (.int .i64 n1)), (1, (.int .i64 n2)), (2, (.int .i64 n3)), (3, (.int .i64 n4))] = some (.agg #[.int .i64 n1, .int .i64 n2, .int .i64 n3, .int .i64 n4]) from by intros; kernel_rfl) <|
  And.intro (show ∀ (n1 : Int) (n2 : Int) (a3 : Option Addr) (k4 : Nat) (k5 : Nat) (n6 : Int) (n7 : Int) (n8 : Int) (n9 : Int), evBuild kon.P 45 [(0, (.int .i64 n1)), (1, (.int .i64 n2)), (5, (.slice a3 k4 k5)), (6, (.agg #[.int .i64 n6, .int .i64 n7, .int .i64 n8, .int .i64 n9]))] = some (.agg #[.int .i64 n1, .int .i64 n2, .int .i64 0, .string ByteArray.empty, .bool false, .slice a3 k4 k5, .int .i64 n6, .int .i64 n7, .int .i64 n8, .int .i64 n9]) from by intros; kernel_rfl) <|
  And.intro (show ∀ (n1 : Int) (n2 : Int) (n3 : Int), evBuild kon.P 39 [(0, (.int .i64 n1)), (1, (.int .i64 n2)), (2, (.int .i64 n3))] = some (.agg #[.int .i64 n1, .int .i64 n2, .int .i64 n3, .int .i64 0]) from by intros; kernel_rfl) <|
  And.intro (show ∀ (n1 : Int) (n2 : Int) (b3 : Bool) (a4 : Option Addr) (k5 : Nat) (k6 : Nat) (n7 : Int) (n8 : Int) (n9 : Int) (n10 : Int), evBuild kon.P 45 [(0, (.int .i64 n1)), (1, (.int .i64 n2)), (4, (.bool b3)), (5, (.slice a4 k5 k6)), (6, (.agg #[.int .i64 n7, .int .i64 n8, .int .i64 n9, .int .i64 n10]))] = some (.agg #[.int .i64 n1, .int .i64 n2, .int .i64 0, .string ByteArray.empty, .bool b3, .slice a4 k5 k6, .int .i64 n7, .int .i64 n8, .int .i64 n9, .int .i64 n10]) from by intros; kernel_rfl) <|
  And.intro (show ∀ (n1 : Int) (n2 : Int) (n3 : Int) (n4 : Int) (n5 : Int), evBuild kon.P 66 [(1, (.int .i64 n1)), (2, (.int .i64 n2)), (4, (.int .i64 n3)), (5, (.int .i64 n4)), (6, (.int .i64 n5))] = some (.agg #[.int .i64 0, .int .i64 n1, .int .i64 n2, .int .i64 0, .int .i64 n3, .int .i64 n4, .int .i64 n5]) from by intros; kernel_rfl) <|
  And.intro (show ∀ (n1 : Int) (n2 : Int) (n3 : Int) (n4 : Int) (n5 : Int) (n6 : Int), evBuild kon.P 66 [(1, (.int .i64 n1)), (2, (.int .i64 n2)), (3, (.int .i64 n3)), (4, (.int .i64 n4)), (5, (.int .i64 n5)), (6, (.int .i64 n6))] = some (.agg #[.int .i64 0, .int .i64 n1, .int .i64 n2, .int .i64 n3, .int .i64 n4, .int .i64 n5, .int .i64 n6]) from by intros; kernel_rfl) <|
  And.intro (L_buildSlice (C := kon) (t := 67) (e := 66) (n := 7) (z := (.agg #[.int .i64 0, .int .i64 0, .int .i64 0, .int .i64 0, .int .i64 0, .int .i64 0, .int .i64 0])) (zs := [.int .i64 0, .int .i64 0, .int .i64 0, .int .i64 0, .int .i64 0, .int .i64 0, .int .i64 0]) (len := 6) (by kernel_rfl) (by kernel_rfl) (by kernel_rfl) (by kernel_rfl) (by kernel_rfl) (by kernel_rfl)) <|
  And.intro (show ∀ (n1 : Int) (n2 : Int) (n3 : Int) (n4 : Int) (n5 : Int) (n6 : Int) (n7 : Int) (n8 : Int) (n9 : Int) (n10 : Int) (n11 : Int) (n12 : Int) (n13 : Int) (n14 : Int) (n15 : Int) (n16 : Int) (n17 : Int) (n18 : Int) (n19 : Int) (n20 : Int) (n21 : Int) (n22 : Int) (n23 : Int) (n24 : Int) (n25 : Int) (n26 : Int) (n27 : Int) (n28 : Int) (n29 : Int) (n30 : Int) (n31 : Int) (n32 : Int) (n33 : Int) (n34 : Int) (n35 : Int) (n36 : Int) (n37 : Int) (n38 : Int) (n39 : Int) (n40 : Int) (n41 : Int) (n42 : Int), litRow 66 7 6 [.int .i64 0, .int .i64 0, .int .i64 0, .int .i64 0, .int .i64 0, .int .i64 0, .int .i64 0] [(0, (.agg #[.int .i64 n1, .int .i64 n2, .int .i64 n3, .int .i64 n4, .int .i64 n5, .int .i64 n6, .int .i64 n7])), (1, (.agg #[.int .i64 n8, .int .i64 n9, .int .i64 n10, .int .i64 n11, .int .i64 n12, .int .i64 n13, .int .i64 n14])), (2, (.agg #[.int .i64 n15, .int .i64 n16, .int .i64 n17, .int .i64 n18, .int .i64 n19, .int .i64 n20, .int .i64 n21])), (3, (.agg #[.int .i64 n22, .int .i64 n23, .int .i64 n24, .int .i64 n25, .int .i64 n26, .int .i64 n27, .int .i64 n28])), (4, (.agg #[.int .i64 n29, .int .i64 n30, .int .i64 n31, .int .i64 n32, .int .i64 n33, .int .i64 n34, .int .i64 n35])), (5, (.agg #[.int .i64 n36, .int .i64 n37, .int .i64 n38, .int .i64 n39, .int .i64 n40, .int .i64 n41, .int .i64 n42]))] = some (mkRow 66 6 [.int .i64 n1, .int .i64 n2, .int .i64 n3, .int .i64 n4, .int .i64 n5, .int .i64 n6, .int .i64 n7, .int .i64 n8, .int .i64 n9, .int .i64 n10, .int .i64 n11, .int .i64 n12, .int .i64 n13, .int .i64 n14, .int .i64 n15, .int .i64 n16, .int .i64 n17, .int .i64 n18, .int .i64 n19, .int .i64 n20, .int .i64 n21, .int .i64 n22, .int .i64 n23, .int .i64 n24, .int .i64 n25, .int .i64 n26, .int .i64 n27, .int .i64 n28, .int .i64 n29, .int .i64 n30, .int .i64 n31, .int .i64 n32, .int .i64 n33, .int .i64 n34, .int .i64 n35, .int .i64 n36, .int .i64 n37, .int .i64 n38, .int .i64 n39, .int .i64 n40, .int .i64 n41, .int .i64 n42]) from by intros; kernel_rfl) <|
  And.intro (show evBuild kon.P 66 [] = some (.agg #[.int .i64 0, .int .i64 0, .int .i64 0, .int .i64 0, .int .i64 0, .int .i64 0, .int .i64 0]) from by intros; kernel_rfl) <|
  And.intro (show ∀ (n1 : Int) (n2 : Int) (n3 : Int) (n4 : Int), evBuild kon.P 66 [(1, (.int .i64 n1)), (2, (.int .i64 n2)), (0, (.int .i64 n3)), (4, (.int .i64 n4))] = some (.agg #[.int .i64 n3, .int .i64 n1, .int .i64 n2, .int .i64 0, .int .i64 n4, .int .i64 0, .int .i64 0]) from by intros; kernel_rfl) <|
  And.intro (show ∀ (n1 : Int) (n2 : Int) (n3 : Int), evBuild kon.P 66 [(1, (.int .i64 n1)), (2, (.int .i64 n2)), (4, (.int .i64 n3))] = some (.agg #[.int .i64 0, .int .i64 n1, .int .i64 n2, .int .i64 0, .int .i64 n3, .int .i64 0, .int .i64 0]) from by intros; kernel_rfl) <|
  And.intro (show ∀ (n1 : Int) (n2 : Int), evBuild kon.P 66 [(1, (.int .i64 n1)), (2, (.int .i64 n2))] = some (.agg #[.int .i64 0, .int .i64 n1, .int .i64 n2, .int .i64 0, .int .i64 0, .int .i64 0, .int .i64 0]) from by intros; kernel_rfl) <|
  And.intro (L_buildSlice (C := kon) (t := 67) (e := 66) (n := 7) (z := (.agg #[.int .i64 0, .int .i64 0, .int .i64 0, .int .i64 0, .int .i64 0, .int .i64 0, .int .i64 0])) (zs := [.int .i64 0, .int .i64 0, .int .i64 0, .int .i64 0, .int .i64 0, .int .i64 0, .int .i64 0]) (len := 12) (by kernel_rfl) (by kernel_rfl) (by kernel_rfl) (by kernel_rfl) (by kernel_rfl) (by kernel_rfl)) <|
  And.intro (L_buildSlice (C := kon) (t := 23) (e := 9) (n := 1) (z := (.string ByteArray.empty)) (zs := [.string ByteArray.empty]) (len := 1) (by kernel_rfl) (by kernel_rfl) (by kernel_rfl) (by kernel_rfl) (by kernel_rfl) (by kernel_rfl)) <|
  And.intro (show ∀ (s1 : ByteArray), litRow 9 1 1 [.string ByteArray.empty] [(0, (.string s1))] = some (mkRow 9 1 [.string s1]) from by intros; kernel_rfl) <|
  And.intro (L_len (C := kon) (t := 67) (by kernel_rfl)) <|
  And.intro (L_lenSl (C := kon) (t := 67) (e := 66) (by kernel_rfl)) <|
  And.intro (L_buildSlice (C := kon) (t := 67) (e := 66) (n := 7) (z := (.agg #[.int .i64 0, .int .i64 0, .int .i64 0, .int .i64 0, .int .i64 0, .int .i64 0, .int .i64 0])) (zs := [.int .i64 0, .int .i64 0, .int .i64 0, .int .i64 0, .int .i64 0, .int .i64 0, .int .i64 0]) (len := 0) (by kernel_rfl) (by kernel_rfl) (by kernel_rfl) (by kernel_rfl) (by kernel_rfl) (by kernel_rfl)) <|
  (show litRow 66 7 0 [.int .i64 0, .int .i64 0, .int .i64 0, .int .i64 0, .int .i64 0, .int .i64 0, .int .i64 0] [] = some (mkRow 66 0 []) from by intros; kernel_rfl)
theorem typ3 : type_of% (
  And.intro (L_append (C := kon) (t := 67) (u := 67) (e := 66) (by kernel_rfl)) <|
  And.intro (L_indexAddr (C := kon) (t := 67) (e := 66) (n := 7) (by kernel_rfl) (by kernel_rfl)) <|
  And.intro (L_loadA (C := kon) (t := 66) (n := 7) (by kernel_rfl) (by kernel_rfl)) <|
  And.intro (L_buildSlice (C := kon) (t := 67) (e := 66) (n := 7) (z := (.agg #[.int .i64 0, .int .i64 0, .int .i64 0, .int .i64 0, .int .i64 0, .int .i64 0, .int .i64 0])) (zs := [.int .i64 0, .int .i64 0, .int .i64 0, .int .i64 0, .int .i64 0, .int .i64 0, .int .i64 0]) (len := 1) (by kernel_rfl) (by kernel_rfl) (by kernel_rfl) (by kernel_rfl) (by kernel_rfl) (by kernel_rfl)) <|
  And.intro (show ∀ (n1 : Int) (n2 : Int) (n3 : Int) (n4 : Int) (n5 : Int) (n6 : Int) (n7 : Int), litRow 66 7 1 [.int .i64 0, .int .i64 0, .int .i64 0, .int .i64 0, .int .i64 0, .int .i64 0, .int .i64 0] [(0, (.agg #[.int .i64 n1, .int .i64 n2, .int .i64 n3, .int .i64 n4, .int .i64 n5, .int .i64 n6, .int .i64 n7]))] = some (mkRow 66 1 [.int .i64 n1, .int .i64 n2, .int .i64 n3, .int .i64 n4, .int .i64 n5, .int .i64 n6, .int .i64 n7]) from by intros; kernel_rfl) <|
  And.intro (L_len (C := kon) (t := 70) (by kernel_rfl)) <|
  And.intro (L_lenSl (C := kon) (t := 70) (e := 3) (by kernel_rfl)) <|
  And.intro (L_indexAddr (C := kon) (t := 70) (e := 3) (n := 1) (by kernel_rfl) (by kernel_rfl)) <|
  And.intro (show evBuild kon.P 73 [] = some (.agg #[.int .i64 0, .string ByteArray.empty]) from by intros; kernel_rfl) <|
  And.intro (L_buildSlice (C := kon) (t := 74) (e := 73) (n := 2) (z := (.agg #[.int .i64 0, .string ByteArray.empty])) (zs := [.int .i64 0, .string ByteArray.empty]) (len := 1) (by kernel_rfl) (by kernel_rfl) (by kernel_rfl) (by kernel_rfl) (by kernel_rfl) (by kernel_rfl)) <|
  And.intro (show ∀ (n1 : Int) (s2 : ByteArray), litRow 73 2 1 [.int .i64 0, .string ByteArray.empty] [(0, (.agg #[.int .i64 n1, .string s2]))] = some (mkRow 73 1 [.int .i64 n1, .string s2]) from by intros; kernel_rfl) <|
  And.intro (show ∀ (n1 : Int), evBuild kon.P 73 [(0, (.int .i64 n1))] = some (.agg #[.int .i64 n1, .string ByteArray.empty]) from by intros; kernel_rfl) <|
  And.intro (show ∀ (n1 : Int) (s2 : ByteArray), evBuild kon.P 73 [(0, (.int .i64 n1)), (1, (.string s2))] = some (.agg #[.int .i64 n1, .string s2]) from by intros; kernel_rfl) <|
  And.intro (L_buildSlice (C := kon) (t := 75) (e := 74) (n := 1) (z := (.slice none 0 0)) (zs := [.slice none 0 0]) (len := 7) (by kernel_rfl) (by kernel_rfl) (by kernel_rfl) (by kernel_rfl) (by kernel_rfl) (by kernel_rfl)) <|
  And.intro (show ∀ (a1 : Option Addr) (k2 : Nat) (k3 : Nat) (a4 : Option Addr) (k5 : Nat) (k6 : Nat) (a7 : Option Addr) (k8 : Nat) (k9 : Nat) (a10 : Option Addr) (k11 : Nat) (k12 : Nat) (a13 : Option Addr) (k14 : Nat) (k15 : Nat) (a16 : Option Addr) (k17 : Nat) (k18 : Nat) (a19 : Option Addr) (k20 : Nat) (k21 : Nat), litRow 74 1 7 [.slice none 0 0] [(0, (.slice a1 k2 k3)), (1, (.slice a4 k5 k6)), (2, (.slice a7 k8 k9)), (3, (.slice a10 k11 k12)), (4, (.slice a13 k14 k15)), (5, (.slice a16 k17 k18)), (6, (.slice a19 k20 k21))] = some (mkRow 74 7 [.slice a1 k2 k3, .slice a4 k5 k6, .slice a7 k8 k9, .slice a10 k11 k12, .slice a13 k14 k15, .slice a16 k17 k18, .slice a19 k20 k21]) from by intros; kernel_rfl) <|
  And.intro (L_len (C := kon) (t := 75) (by kernel_rfl)) <|
  And.intro (L_lenSl (C := kon) (t := 75) (e := 74) (by kernel_rfl)) <|
  And.intro (L_indexAddr (C := kon) (t := 75) (e := 74) (n := 1) (by kernel_rfl) (by kernel_rfl)) <|
  And.intro (L_loadC (C := kon) (t := 74) (by kernel_rfl)) <|
  And.intro (L_buildSlice (C := kon) (t := 74) (e := 73) (n := 2) (z := (.agg #[.int .i64 0, .string ByteArray.empty])) (zs := [.int .i64 0, .string ByteArray.empty]) (len := 3) (by kernel_rfl) (by kernel_rfl) (by kernel_rfl) (by kernel_rfl) (by kernel_rfl) (by kernel_rfl)) <|
  And.intro (show ∀ (n1 : Int) (s2 : ByteArray) (n3 : Int) (s4 : ByteArray) (n5 : Int) (s6 : ByteArray), litRow 73 2 3 [.int .i64 0, .string ByteArray.empty] [(0, (.agg #[.int .i64 n1, .string s2])), (1, (.agg #[.int .i64 n3, .string s4])), (2, (.agg #[.int .i64 n5, .string s6]))] = some (mkRow 73 3 [.int .i64 n1, .string s2, .int .i64 n3, .string s4, .int .i64 n5, .string s6]) from by intros; kernel_rfl) <|
  And.intro (L_alloc (C := kon) (t := 79) (z := (.agg #[.int .i64 0, .int .i64 0, .int .i64 0])) (cs := [.int .i64 0, .int .i64 0, .int .i64 0]) (by kernel_rfl) (by kernel_rfl) (by kernel_rfl)) <|
  And.intro (L_indexArr (C := kon) (t := 79) (m := 3) (e := 3) (n := 1) (by kernel_rfl) (by kernel_rfl)) <|
  And.intro (L_store (C := kon) (t := 3) (n := 1) (by kernel_rfl)) <|
  And.intro (L_indexArr (C := kon) (t := 78) (m := 3) (e := 4) (n := 1) (by kernel_rfl) (by kernel_rfl)) <|
  And.intro (L_loadC (C := kon) (t := 4) (by kernel_rfl)) <|
  And.intro (L_indexAddr (C := kon) (t := 74) (e := 73) (n := 2) (by kernel_rfl) (by kernel_rfl)) <|
  And.intro (L_loadA (C := kon) (t := 73) (n := 2) (by kernel_rfl) (by kernel_rfl)) <|
  And.intro (L_append (C := kon) (t := 74) (u := 74) (e := 73) (by kernel_rfl)) <|
  And.intro (L_cmp (C := kon) (t := 82) (by kernel_rfl) (op := .eql) rfl) <|
  And.intro (L_cmpE (C := kon) (t := 82) (by kernel_rfl)) <|
  And.intro (show ∀ (x y : Operand) (h : Hp) (p i : Nat), cmpV kon.P .eql 82 x y h (.pointer (some ⟨p, i, none⟩)) (.pointer (none)) = some (.bool false) from by intros; kernel_rfl) <|
  And.intro (show ∀ (x y : Operand) (h : Hp) (p i : Nat), cmpV kon.P .eql 82 x y h (.pointer (none)) (.pointer (some ⟨p, i, none⟩)) = some (.bool false) from by intros; kernel_rfl) <|
  And.intro (show ∀ (x y : Operand) (h : Hp), cmpV kon.P .eql 82 x y h (.pointer (none)) (.pointer (none)) = some (.bool true) from by intros; kernel_rfl) <|
  And.intro (show ∀ (b o : Nat), evFieldAddr kon.P 81 (.pointer (some ⟨b, o, none⟩)) 5 = some (.pointer (some ⟨b, o + 5, none⟩)) from by intros; kernel_rfl) <|
  And.intro (L_cmp (C := kon) (t := 82) (by kernel_rfl) (op := .neq) rfl) <|
  And.intro (L_cmpN (C := kon) (t := 82) (by kernel_rfl)) <|
  And.intro (show ∀ (x y : Operand) (h : Hp) (p i : Nat), cmpV kon.P .neq 82 x y h (.pointer (some ⟨p, i, none⟩)) (.pointer (none)) = some (.bool true) from by intros; kernel_rfl) <|
  And.intro (show ∀ (x y : Operand) (h : Hp) (p i : Nat), cmpV kon.P .neq 82 x y h (.pointer (none)) (.pointer (some ⟨p, i, none⟩)) = some (.bool true) from by intros; kernel_rfl) <|
  (show ∀ (x y : Operand) (h : Hp), cmpV kon.P .neq 82 x y h (.pointer (none)) (.pointer (none)) = some (.bool false) from by intros; kernel_rfl)) :=
  And.intro (L_append (C := kon) (t := 67) (u := 67) (e := 66) (by kernel_rfl)) <|
  And.intro (L_indexAddr (C := kon) (t := 67) (e := 66) (n := 7) (by kernel_rfl) (by kernel_rfl)) <|
  And.intro (L_loadA (C := kon) (t := 66) (n := 7) (by kernel_rfl) (by kernel_rfl)) <|
  And.intro (L_buildSlice (C := kon) (t := 67) (e := 66) (n := 7) (z := (.agg #[.int .i64 0, .int .i64 0, .int .i64 0, .int .i64 0, .int .i64 0, .int .i64 0, .int .i64 0])) (zs := [.int .i64 0, .int .i64 0, .int .i64 0, .int .i64 0, .int .i64 0, .int .i64 0, .int .i64 0]) (len := 1) (by kernel_rfl) (by kernel_rfl) (by kernel_rfl) (by kernel_rfl) (by kernel_rfl) (by kernel_rfl)) <|
  And.intro (show ∀ (n1 : Int) (n2 : Int) (n3 : Int) (n4 : Int) (n5 : Int) (n6 : Int) (n7 : Int), litRow 66 7 1 [.int .i64 0, .int .i64 0, .int .i64 0, .int .i64 0, .int .i64 0, .int .i64 0, .int .i64 0] [(0, (.agg #[.int .i64 n1, .int .i64 n2, .int .i64 n3, .int .i64 n4, .int .i64 n5, .int .i64 n6, .int .i64 n7]))] = some (mkRow 66 1 [.int .i64 n1, .int .i64 n2, .int .i64 n3, .int .i64 n4, .int .i64 n5, .int .i64 n6, .int .i64 n7]) from by intros; kernel_rfl) <|
  And.intro (L_len (C := kon) (t := 70) (by kernel_rfl)) <|
  And.intro (L_lenSl (C := kon) (t := 70) (e := 3) (by kernel_rfl)) <|
  And.intro (L_indexAddr (C := kon) (t := 70) (e := 3) (n := 1) (by kernel_rfl) (by kernel_rfl)) <|
  And.intro (show evBuild kon.P 73 [] = some (.agg #[.int .i64 0, .string ByteArray.empty]) from by intros; kernel_rfl) <|
  And.intro (L_buildSlice (C := kon) (t := 74) (e := 73) (n := 2) (z := (.agg #[.int .i64 0, .string ByteArray.empty])) (zs := [.int .i64 0, .string ByteArray.empty]) (len := 1) (by kernel_rfl) (by kernel_rfl) (by kernel_rfl) (by kernel_rfl) (by kernel_rfl) (by kernel_rfl)) <|
  And.intro (show ∀ (n1 : Int) (s2 : ByteArray), litRow 73 2 1 [.int .i64 0, .string ByteArray.empty] [(0, (.agg #[.int .i64 n1, .string s2]))] = some (mkRow 73 1 [.int .i64 n1, .string s2]) from by intros; kernel_rfl) <|
  And.intro (show ∀ (n1 : Int), evBuild kon.P 73 [(0, (.int .i64 n1))] = some (.agg #[.int .i64 n1, .string ByteArray.empty]) from by intros; kernel_rfl) <|
  And.intro (show ∀ (n1 : Int) (s2 : ByteArray), evBuild kon.P 73 [(0, (.int .i64 n1)), (1, (.string s2))] = some (.agg #[.int .i64 n1, .string s2]) from by intros; kernel_rfl) <|
  And.intro (L_buildSlice (C := kon) (t := 75) (e := 74) (n := 1) (z := (.slice none 0 0)) (zs := [.slice none 0 0]) (len := 7) (by kernel_rfl) (by kernel_rfl) (by kernel_rfl) (by kernel_rfl) (by kernel_rfl) (by kernel_rfl)) <|
  And.intro (show ∀ (a1 : Option Addr) (k2 : Nat) (k3 : Nat) (a4 : Option Addr) (k5 : Nat) (k6 : Nat) (a7 : Option Addr) (k8 : Nat) (k9 : Nat) (a10 : Option Addr) (k11 : Nat) (k12 : Nat) (a13 : Option Addr) (k14 : Nat) (k15 : Nat) (a16 : Option Addr) (k17 : Nat) (k18 : Nat) (a19 : Option Addr) (k20 : Nat) (k21 : Nat), litRow 74 1 7 [.slice none 0 0] [(0, (.slice a1 k2 k3)), (1, (.slice a4 k5 k6)), (2, (.slice a7 k8 k9)), (3, (.slice a10 k11 k12)), (4, (.slice a13 k14 k15)), (5, (.slice a16 k17 k18)), (6, (.slice a19 k20 k21))] = some (mkRow 74 7 [.slice a1 k2 k3, .slice a4 k5 k6, .slice a7 k8 k9, .slice a10 k11 k12, .slice a13 k14 k15, .slice a16 k17 k18, .slice a19 k20 k21]) from by intros; kernel_rfl) <|
  And.intro (L_len (C := kon) (t := 75) (by kernel_rfl)) <|
  And.intro (L_lenSl (C := kon) (t := 75) (e := 74) (by kernel_rfl)) <|
  And.intro (L_indexAddr (C := kon) (t := 75) (e := 74) (n := 1) (by kernel_rfl) (by kernel_rfl)) <|
  And.intro (L_loadC (C := kon) (t := 74) (by kernel_rfl)) <|
  And.intro (L_buildSlice (C := kon) (t := 74) (e := 73) (n := 2) (z := (.agg #[.int .i64 0, .string ByteArray.empty])) (zs := [.int .i64 0, .string ByteArray.empty]) (len := 3) (by kernel_rfl) (by kernel_rfl) (by kernel_rfl) (by kernel_rfl) (by kernel_rfl) (by kernel_rfl)) <|
  And.intro (show ∀ (n1 : Int) (s2 : ByteArray) (n3 : Int) (s4 : ByteArray) (n5 : Int) (s6 : ByteArray), litRow 73 2 3 [.int .i64 0, .string ByteArray.empty] [(0, (.agg #[.int .i64 n1, .string s2])), (1, (.agg #[.int .i64 n3, .string s4])), (2, (.agg #[.int .i64 n5, .string s6]))] = some (mkRow 73 3 [.int .i64 n1, .string s2, .int .i64 n3, .string s4, .int .i64 n5, .string s6]) from by intros; kernel_rfl) <|
  And.intro (L_alloc (C := kon) (t := 79) (z := (.agg #[.int .i64 0, .int .i64 0, .int .i64 0])) (cs := [.int .i64 0, .int .i64 0, .int .i64 0]) (by kernel_rfl) (by kernel_rfl) (by kernel_rfl)) <|
  And.intro (L_indexArr (C := kon) (t := 79) (m := 3) (e := 3) (n := 1) (by kernel_rfl) (by kernel_rfl)) <|
  And.intro (L_store (C := kon) (t := 3) (n := 1) (by kernel_rfl)) <|
  And.intro (L_indexArr (C := kon) (t := 78) (m := 3) (e := 4) (n := 1) (by kernel_rfl) (by kernel_rfl)) <|
  And.intro (L_loadC (C := kon) (t := 4) (by kernel_rfl)) <|
  And.intro (L_indexAddr (C := kon) (t := 74) (e := 73) (n := 2) (by kernel_rfl) (by kernel_rfl)) <|
  And.intro (L_loadA (C := kon) (t := 73) (n := 2) (by kernel_rfl) (by kernel_rfl)) <|
  And.intro (L_append (C := kon) (t := 74) (u := 74) (e := 73) (by kernel_rfl)) <|
  And.intro (L_cmp (C := kon) (t := 82) (by kernel_rfl) (op := .eql) rfl) <|
  And.intro (L_cmpE (C := kon) (t := 82) (by kernel_rfl)) <|
  And.intro (show ∀ (x y : Operand) (h : Hp) (p i : Nat), cmpV kon.P .eql 82 x y h (.pointer (some ⟨p, i, none⟩)) (.pointer (none)) = some (.bool false) from by intros; kernel_rfl) <|
  And.intro (show ∀ (x y : Operand) (h : Hp) (p i : Nat), cmpV kon.P .eql 82 x y h (.pointer (none)) (.pointer (some ⟨p, i, none⟩)) = some (.bool false) from by intros; kernel_rfl) <|
  And.intro (show ∀ (x y : Operand) (h : Hp), cmpV kon.P .eql 82 x y h (.pointer (none)) (.pointer (none)) = some (.bool true) from by intros; kernel_rfl) <|
  And.intro (show ∀ (b o : Nat), evFieldAddr kon.P 81 (.pointer (some ⟨b, o, none⟩)) 5 = some (.pointer (some ⟨b, o + 5, none⟩)) from by intros; kernel_rfl) <|
  And.intro (L_cmp (C := kon) (t := 82) (by kernel_rfl) (op := .neq) rfl) <|
  And.intro (L_cmpN (C := kon) (t := 82) (by kernel_rfl)) <|
  And.intro (show ∀ (x y : Operand) (h : Hp) (p i : Nat), cmpV kon.P .neq 82 x y h (.pointer (some ⟨p, i, none⟩)) (.pointer (none)) = some (.bool true) from by intros; kernel_rfl) <|
  And.intro (show ∀ (x y : Operand) (h : Hp) (p i : Nat), cmpV kon.P .neq 82 x y h (.pointer (none)) (.pointer (some ⟨p, i, none⟩)) = some (.bool true) from by intros; kernel_rfl) <|
  (show ∀ (x y : Operand) (h : Hp), cmpV kon.P .neq 82 x y h (.pointer (none)) (.pointer (none)) = some (.bool false) from by intros; kernel_rfl)
theorem typ4 : type_of% (
  And.intro (L_loadC (C := kon) (t := 5) (by kernel_rfl)) <|
  And.intro (show ∀ (b o : Nat), evFieldAddr kon.P 81 (.pointer (some ⟨b, o, none⟩)) 0 = some (.pointer (some ⟨b, o + 0, none⟩)) from by intros; kernel_rfl) <|
  And.intro (show ∀ (b o : Nat), evFieldAddr kon.P 81 (.pointer (some ⟨b, o, none⟩)) 1 = some (.pointer (some ⟨b, o + 1, none⟩)) from by intros; kernel_rfl) <|
  And.intro (show ∀ (b o : Nat), evFieldAddr kon.P 81 (.pointer (some ⟨b, o, none⟩)) 4 = some (.pointer (some ⟨b, o + 4, none⟩)) from by intros; kernel_rfl) <|
  And.intro (show ∀ (b o : Nat), evFieldAddr kon.P 81 (.pointer (some ⟨b, o, none⟩)) 6 = some (.pointer (some ⟨b, o + 6, none⟩)) from by intros; kernel_rfl) <|
  And.intro (L_alloc (C := kon) (t := 86) (z := (.agg #[.int .i64 0, .int .i64 0, .bool false, .bool false, .bool false, .int .i64 0, .int .i64 0, .int .i64 0, .int .i64 0])) (cs := [.int .i64 0, .int .i64 0, .bool false, .bool false, .bool false, .int .i64 0, .int .i64 0, .int .i64 0, .int .i64 0]) (by kernel_rfl) (by kernel_rfl) (by kernel_rfl)) <|
  And.intro (L_store (C := kon) (t := 86) (n := 9) (by kernel_rfl)) <|
  And.intro (L_buildSlice (C := kon) (t := 23) (e := 9) (n := 1) (z := (.string ByteArray.empty)) (zs := [.string ByteArray.empty]) (len := 4) (by kernel_rfl) (by kernel_rfl) (by kernel_rfl) (by kernel_rfl) (by kernel_rfl) (by kernel_rfl)) <|
  And.intro (show ∀ (s1 : ByteArray) (s2 : ByteArray) (s3 : ByteArray) (s4 : ByteArray), litRow 9 1 4 [.string ByteArray.empty] [(0, (.string s1)), (1, (.string s2)), (2, (.string s3)), (3, (.string s4))] = some (mkRow 9 4 [.string s1, .string s2, .string s3, .string s4]) from by intros; kernel_rfl) <|
  And.intro (show ∀ (b o : Nat), evFieldAddr kon.P 62 (.pointer (some ⟨b, o, none⟩)) 1 = some (.pointer (some ⟨b, o + 1, none⟩)) from by intros; kernel_rfl) <|
  And.intro (L_store (C := kon) (t := 4) (n := 1) (by kernel_rfl)) <|
  And.intro (show ∀ (b o : Nat), evFieldAddr kon.P 86 (.pointer (some ⟨b, o, none⟩)) 0 = some (.pointer (some ⟨b, o + 0, none⟩)) from by intros; kernel_rfl) <|
  And.intro (show ∀ (b o : Nat), evFieldAddr kon.P 86 (.pointer (some ⟨b, o, none⟩)) 1 = some (.pointer (some ⟨b, o + 1, none⟩)) from by intros; kernel_rfl) <|
  And.intro (show ∀ (b o : Nat), evFieldAddr kon.P 86 (.pointer (some ⟨b, o, none⟩)) 2 = some (.pointer (some ⟨b, o + 2, none⟩)) from by intros; kernel_rfl) <|
  And.intro (L_bin (C := kon) (t := 62) (by kernel_rfl)) <|
  And.intro (show ∀ (b o : Nat), evFieldAddr kon.P 86 (.pointer (some ⟨b, o, none⟩)) 3 = some (.pointer (some ⟨b, o + 5, none⟩)) from by intros; kernel_rfl) <|
  And.intro (L_alloc (C := kon) (t := 3) (z := (.int .i64 0)) (cs := [.int .i64 0]) (by kernel_rfl) (by kernel_rfl) (by kernel_rfl)) <|
  And.intro (L_loadA (C := kon) (t := 86) (n := 9) (by kernel_rfl) (by kernel_rfl)) <|
  And.intro (show ∀ (b1 : Bool) (b2 : Bool), evBuild kon.P 62 [(0, (.bool b1)), (2, (.bool b2))] = some (.agg #[.bool b1, .bool false, .bool b2]) from by intros; kernel_rfl) <|
  And.intro (show evBuild kon.P 62 [] = some (.agg #[.bool false, .bool false, .bool false]) from by intros; kernel_rfl) <|
  And.intro (show ∀ (b o : Nat), evFieldAddr kon.P 62 (.pointer (some ⟨b, o, none⟩)) 0 = some (.pointer (some ⟨b, o + 0, none⟩)) from by intros; kernel_rfl) <|
  And.intro (show ∀ (b o : Nat), evFieldAddr kon.P 39 (.pointer (some ⟨b, o, none⟩)) 1 = some (.pointer (some ⟨b, o + 1, none⟩)) from by intros; kernel_rfl) <|
  And.intro (show ∀ (b o : Nat), evFieldAddr kon.P 39 (.pointer (some ⟨b, o, none⟩)) 0 = some (.pointer (some ⟨b, o + 0, none⟩)) from by intros; kernel_rfl) <|
  And.intro (show ∀ (b o : Nat), evFieldAddr kon.P 62 (.pointer (some ⟨b, o, none⟩)) 2 = some (.pointer (some ⟨b, o + 2, none⟩)) from by intros; kernel_rfl) <|
  And.intro (show ∀ (b o : Nat), evFieldAddr kon.P 39 (.pointer (some ⟨b, o, none⟩)) 2 = some (.pointer (some ⟨b, o + 2, none⟩)) from by intros; kernel_rfl) <|
  And.intro (show ∀ (b o : Nat), evFieldAddr kon.P 39 (.pointer (some ⟨b, o, none⟩)) 3 = some (.pointer (some ⟨b, o + 3, none⟩)) from by intros; kernel_rfl) <|
  And.intro (show ∀ (n1 : Int), evBuild kon.P 39 [(2, (.int .i64 n1))] = some (.agg #[.int .i64 0, .int .i64 0, .int .i64 n1, .int .i64 0]) from by intros; kernel_rfl) <|
  And.intro (show ∀ (n1 : Int) (n2 : Int) (n3 : Int) (n4 : Int) (n5 : Int) (n6 : Int), evBuild kon.P 45 [(0, (.int .i64 n1)), (1, (.int .i64 n2)), (6, (.agg #[.int .i64 n3, .int .i64 n4, .int .i64 n5, .int .i64 n6]))] = some (.agg #[.int .i64 n1, .int .i64 n2, .int .i64 0, .string ByteArray.empty, .bool false, .slice none 0 0, .int .i64 n3, .int .i64 n4, .int .i64 n5, .int .i64 n6]) from by intros; kernel_rfl) <|
  And.intro (L_len (C := kon) (t := 100) (by kernel_rfl)) <|
  And.intro (L_lenSl (C := kon) (t := 100) (e := 102) (by kernel_rfl)) <|
  And.intro (L_buildSlice (C := kon) (t := 70) (e := 3) (n := 1) (z := (.int .i64 0)) (zs := [.int .i64 0]) (len := 1) (by kernel_rfl) (by kernel_rfl) (by kernel_rfl) (by kernel_rfl) (by kernel_rfl) (by kernel_rfl)) <|
  And.intro (show ∀ (n1 : Int), litRow 3 1 1 [.int .i64 0] [(0, (.int .i64 n1))] = some (mkRow 3 1 [.int .i64 n1]) from by intros; kernel_rfl) <|
  And.intro (L_buildSlice (C := kon) (t := 101) (e := 4) (n := 1) (z := (.bool false)) (zs := [.bool false]) (len := 1) (by kernel_rfl) (by kernel_rfl) (by kernel_rfl) (by kernel_rfl) (by kernel_rfl) (by kernel_rfl)) <|
  And.intro (show ∀ (b1 : Bool), litRow 4 1 1 [.bool false] [(0, (.bool b1))] = some (mkRow 4 1 [.bool b1]) from by intros; kernel_rfl) <|
  And.intro (L_indexAddr (C := kon) (t := 100) (e := 102) (n := 2) (by kernel_rfl) (by kernel_rfl)) <|
  And.intro (L_indexArr (C := kon) (t := 102) (m := 2) (e := 5) (n := 1) (by kernel_rfl) (by kernel_rfl)) <|
  And.intro (L_buildSlice (C := kon) (t := 35) (e := 5) (n := 1) (z := (.int .u8 0)) (zs := [.int .u8 0]) (len := 2) (by kernel_rfl) (by kernel_rfl) (by kernel_rfl) (by kernel_rfl) (by kernel_rfl) (by kernel_rfl)) <|
  And.intro (show ∀ (n1 : Int) (n2 : Int), litRow 5 1 2 [.int .u8 0] [(0, (.int .u8 n1)), (1, (.int .u8 n2))] = some (mkRow 5 2 [.int .u8 n1, .int .u8 n2]) from by intros; kernel_rfl) <|
  And.intro (L_indexAddr (C := kon) (t := 101) (e := 4) (n := 1) (by kernel_rfl) (by kernel_rfl)) <|
  (L_append (C := kon) (t := 70) (u := 70) (e := 3) (by kernel_rfl))) :=
  And.intro (L_loadC (C := kon) (t := 5) (by kernel_rfl)) <|
  And.intro (show ∀ (b o : Nat), evFieldAddr kon.P 81 (.pointer (some ⟨b, o, none⟩)) 0 = some (.pointer (some ⟨b, o + 0, none⟩)) from by intros; kernel_rfl) <|
  And.intro (show ∀ (b o : Nat), evFieldAddr kon.P 81 (.pointer (some ⟨b, o, none⟩)) 1 = some (.pointer (some ⟨b, o + 1, none⟩)) from by intros; kernel_rfl) <|
  And.intro (show ∀ (b o : Nat), evFieldAddr kon.P 81 (.pointer (some ⟨b, o, none⟩)) 4 = some (.pointer (some ⟨b, o + 4, none⟩)) from by intros; kernel_rfl) <|
  And.intro (show ∀ (b o : Nat), evFieldAddr kon.P 81 (.pointer (some ⟨b, o, none⟩)) 6 = some (.pointer (some ⟨b, o + 6, none⟩)) from by intros; kernel_rfl) <|
  And.intro (L_alloc (C := kon) (t := 86) (z := (.agg #[.int .i64 0, .int .i64 0, .bool false, .bool false, .bool false, .int .i64 0, .int .i64 0, .int .i64 0, .int .i64 0])) (cs := [.int .i64 0, .int .i64 0, .bool false, .bool false, .bool false, .int .i64 0, .int .i64 0, .int .i64 0, .int .i64 0]) (by kernel_rfl) (by kernel_rfl) (by kernel_rfl)) <|
  And.intro (L_store (C := kon) (t := 86) (n := 9) (by kernel_rfl)) <|
  And.intro (L_buildSlice (C := kon) (t := 23) (e := 9) (n := 1) (z := (.string ByteArray.empty)) (zs := [.string ByteArray.empty]) (len := 4) (by kernel_rfl) (by kernel_rfl) (by kernel_rfl) (by kernel_rfl) (by kernel_rfl) (by kernel_rfl)) <|
  And.intro (show ∀ (s1 : ByteArray) (s2 : ByteArray) (s3 : ByteArray) (s4 : ByteArray), litRow 9 1 4 [.string ByteArray.empty] [(0, (.string s1)), (1, (.string s2)), (2, (.string s3)), (3, (.string s4))] = some (mkRow 9 4 [.string s1, .string s2, .string s3, .string s4]) from by intros; kernel_rfl) <|
  And.intro (show ∀ (b o : Nat), evFieldAddr kon.P 62 (.pointer (some ⟨b, o, none⟩)) 1 = some (.pointer (some ⟨b, o + 1, none⟩)) from by intros; kernel_rfl) <|
  And.intro (L_store (C := kon) (t := 4) (n := 1) (by kernel_rfl)) <|
  And.intro (show ∀ (b o : Nat), evFieldAddr kon.P 86 (.pointer (some ⟨b, o, none⟩)) 0 = some (.pointer (some ⟨b, o + 0, none⟩)) from by intros; kernel_rfl) <|
  And.intro (show ∀ (b o : Nat), evFieldAddr kon.P 86 (.pointer (some ⟨b, o, none⟩)) 1 = some (.pointer (some ⟨b, o + 1, none⟩)) from by intros; kernel_rfl) <|
  And.intro (show ∀ (b o : Nat), evFieldAddr kon.P 86 (.pointer (some ⟨b, o, none⟩)) 2 = some (.pointer (some ⟨b, o + 2, none⟩)) from by intros; kernel_rfl) <|
  And.intro (L_bin (C := kon) (t := 62) (by kernel_rfl)) <|
  And.intro (show ∀ (b o : Nat), evFieldAddr kon.P 86 (.pointer (some ⟨b, o, none⟩)) 3 = some (.pointer (some ⟨b, o + 5, none⟩)) from by intros; kernel_rfl) <|
  And.intro (L_alloc (C := kon) (t := 3) (z := (.int .i64 0)) (cs := [.int .i64 0]) (by kernel_rfl) (by kernel_rfl) (by kernel_rfl)) <|
  And.intro (L_loadA (C := kon) (t := 86) (n := 9) (by kernel_rfl) (by kernel_rfl)) <|
  And.intro (show ∀ (b1 : Bool) (b2 : Bool), evBuild kon.P 62 [(0, (.bool b1)), (2, (.bool b2))] = some (.agg #[.bool b1, .bool false, .bool b2]) from by intros; kernel_rfl) <|
  And.intro (show evBuild kon.P 62 [] = some (.agg #[.bool false, .bool false, .bool false]) from by intros; kernel_rfl) <|
  And.intro (show ∀ (b o : Nat), evFieldAddr kon.P 62 (.pointer (some ⟨b, o, none⟩)) 0 = some (.pointer (some ⟨b, o + 0, none⟩)) from by intros; kernel_rfl) <|
  And.intro (show ∀ (b o : Nat), evFieldAddr kon.P 39 (.pointer (some ⟨b, o, none⟩)) 1 = some (.pointer (some ⟨b, o + 1, none⟩)) from by intros; kernel_rfl) <|
  And.intro (show ∀ (b o : Nat), evFieldAddr kon.P 39 (.pointer (some ⟨b, o, none⟩)) 0 = some (.pointer (some ⟨b, o + 0, none⟩)) from by intros; kernel_rfl) <|
  And.intro (show ∀ (b o : Nat), evFieldAddr kon.P 62 (.pointer (some ⟨b, o, none⟩)) 2 = some (.pointer (some ⟨b, o + 2, none⟩)) from by intros; kernel_rfl) <|
  And.intro (show ∀ (b o : Nat), evFieldAddr kon.P 39 (.pointer (some ⟨b, o, none⟩)) 2 = some (.pointer (some ⟨b, o + 2, none⟩)) from by intros; kernel_rfl) <|
  And.intro (show ∀ (b o : Nat), evFieldAddr kon.P 39 (.pointer (some ⟨b, o, none⟩)) 3 = some (.pointer (some ⟨b, o + 3, none⟩)) from by intros; kernel_rfl) <|
  And.intro (show ∀ (n1 : Int), evBuild kon.P 39 [(2, (.int .i64 n1))] = some (.agg #[.int .i64 0, .int .i64 0, .int .i64 n1, .int .i64 0]) from by intros; kernel_rfl) <|
  And.intro (show ∀ (n1 : Int) (n2 : Int) (n3 : Int) (n4 : Int) (n5 : Int) (n6 : Int), evBuild kon.P 45 [(0, (.int .i64 n1)), (1, (.int .i64 n2)), (6, (.agg #[.int .i64 n3, .int .i64 n4, .int .i64 n5, .int .i64 n6]))] = some (.agg #[.int .i64 n1, .int .i64 n2, .int .i64 0, .string ByteArray.empty, .bool false, .slice none 0 0, .int .i64 n3, .int .i64 n4, .int .i64 n5, .int .i64 n6]) from by intros; kernel_rfl) <|
  And.intro (L_len (C := kon) (t := 100) (by kernel_rfl)) <|
  And.intro (L_lenSl (C := kon) (t := 100) (e := 102) (by kernel_rfl)) <|
  And.intro (L_buildSlice (C := kon) (t := 70) (e := 3) (n := 1) (z := (.int .i64 0)) (zs := [.int .i64 0]) (len := 1) (by kernel_rfl) (by kernel_rfl) (by kernel_rfl) (by kernel_rfl) (by kernel_rfl) (by kernel_rfl)) <|
  And.intro (show ∀ (n1 : Int), litRow 3 1 1 [.int .i64 0] [(0, (.int .i64 n1))] = some (mkRow 3 1 [.int .i64 n1]) from by intros; kernel_rfl) <|
  And.intro (L_buildSlice (C := kon) (t := 101) (e := 4) (n := 1) (z := (.bool false)) (zs := [.bool false]) (len := 1) (by kernel_rfl) (by kernel_rfl) (by kernel_rfl) (by kernel_rfl) (by kernel_rfl) (by kernel_rfl)) <|
  And.intro (show ∀ (b1 : Bool), litRow 4 1 1 [.bool false] [(0, (.bool b1))] = some (mkRow 4 1 [.bool b1]) from by intros; kernel_rfl) <|
  And.intro (L_indexAddr (C := kon) (t := 100) (e := 102) (n := 2) (by kernel_rfl) (by kernel_rfl)) <|
  And.intro (L_indexArr (C := kon) (t := 102) (m := 2) (e := 5) (n := 1) (by kernel_rfl) (by kernel_rfl)) <|
  And.intro (L_buildSlice (C := kon) (t := 35) (e := 5) (n := 1) (z := (.int .u8 0)) (zs := [.int .u8 0]) (len := 2) (by kernel_rfl) (by kernel_rfl) (by kernel_rfl) (by kernel_rfl) (by kernel_rfl) (by kernel_rfl)) <|
  And.intro (show ∀ (n1 : Int) (n2 : Int), litRow 5 1 2 [.int .u8 0] [(0, (.int .u8 n1)), (1, (.int .u8 n2))] = some (mkRow 5 2 [.int .u8 n1, .int .u8 n2]) from by intros; kernel_rfl) <|
  And.intro (L_indexAddr (C := kon) (t := 101) (e := 4) (n := 1) (by kernel_rfl) (by kernel_rfl)) <|
  (L_append (C := kon) (t := 70) (u := 70) (e := 3) (by kernel_rfl))
theorem typ5 : type_of% (
  And.intro (L_append (C := kon) (t := 101) (u := 101) (e := 4) (by kernel_rfl)) <|
  And.intro (show ∀ (n1 : Int) (n2 : Int) (a3 : Option Addr) (k4 : Nat) (k5 : Nat), evBuild kon.P 45 [(0, (.int .i64 n1)), (1, (.int .i64 n2)), (5, (.slice a3 k4 k5))] = some (.agg #[.int .i64 n1, .int .i64 n2, .int .i64 0, .string ByteArray.empty, .bool false, .slice a3 k4 k5, .int .i64 0, .int .i64 0, .int .i64 0, .int .i64 0]) from by intros; kernel_rfl) <|
  And.intro (L_indexAddr (C := kon) (t := 37) (e := 64) (n := 4) (by kernel_rfl) (by kernel_rfl)) <|
  And.intro (show ∀ (b o : Nat), evFieldAddr kon.P 64 (.pointer (some ⟨b, o, none⟩)) 0 = some (.pointer (some ⟨b, o + 0, none⟩)) from by intros; kernel_rfl) <|
  And.intro (L_store (C := kon) (t := 9) (n := 1) (by kernel_rfl)) <|
  And.intro (L_loadA (C := kon) (t := 64) (n := 4) (by kernel_rfl) (by kernel_rfl)) <|
  And.intro (L_bin (C := kon) (t := 64) (by kernel_rfl)) <|
  And.intro (show ∀ (b1 : Bool), evBuild kon.P 62 [(0, (.bool b1))] = some (.agg #[.bool b1, .bool false, .bool false]) from by intros; kernel_rfl) <|
  And.intro (L_loadA (C := kon) (t := 45) (n := 10) (by kernel_rfl) (by kernel_rfl)) <|
  And.intro (L_append (C := kon) (t := 23) (u := 23) (e := 9) (by kernel_rfl)) <|
  And.intro (show ∀ (n1 : Int), evBuild kon.P 39 [(0, (.int .i64 n1))] = some (.agg #[.int .i64 n1, .int .i64 0, .int .i64 0, .int .i64 0]) from by intros; kernel_rfl) <|
  And.intro (show ∀ (n1 : Int) (n2 : Int) (s3 : ByteArray), evBuild kon.P 45 [(0, (.int .i64 n1)), (1, (.int .i64 n2)), (3, (.string s3))] = some (.agg #[.int .i64 n1, .int .i64 n2, .int .i64 0, .string s3, .bool false, .slice none 0 0, .int .i64 0, .int .i64 0, .int .i64 0, .int .i64 0]) from by intros; kernel_rfl) <|
  And.intro (L_buildSlice (C := kon) (t := 109) (e := 24) (n := 1) (z := (.int .i64 0)) (zs := [.int .i64 0]) (len := 22) (by kernel_rfl) (by kernel_rfl) (by kernel_rfl) (by kernel_rfl) (by kernel_rfl) (by kernel_rfl)) <|
  And.intro (show ∀ (n1 : Int) (n2 : Int) (n3 : Int) (n4 : Int) (n5 : Int) (n6 : Int) (n7 : Int) (n8 : Int) (n9 : Int) (n10 : Int) (n11 : Int) (n12 : Int) (n13 : Int) (n14 : Int) (n15 : Int) (n16 : Int) (n17 : Int) (n18 : Int) (n19 : Int) (n20 : Int) (n21 : Int) (n22 : Int), litRow 24 1 22 [.int .i64 0] [(0, (.int .i64 n1)), (1, (.int .i64 n2)), (2, (.int .i64 n3)), (3, (.int .i64 n4)), (4, (.int .i64 n5)), (5, (.int .i64 n6)), (6, (.int .i64 n7)), (7, (.int .i64 n8)), (8, (.int .i64 n9)), (9, (.int .i64 n10)), (10, (.int .i64 n11)), (11, (.int .i64 n12)), (12, (.int .i64 n13)), (13, (.int .i64 n14)), (14, (.int .i64 n15)), (15, (.int .i64 n16)), (16, (.int .i64 n17)), (17, (.int .i64 n18)), (18, (.int .i64 n19)), (19, (.int .i64 n20)), (20, (.int .i64 n21)), (21, (.int .i64 n22))] = some (mkRow 24 22 [.int .i64 n1, .int .i64 n2, .int .i64 n3, .int .i64 n4, .int .i64 n5, .int .i64 n6, .int .i64 n7, .int .i64 n8, .int .i64 n9, .int .i64 n10, .int .i64 n11, .int .i64 n12, .int .i64 n13, .int .i64 n14, .int .i64 n15, .int .i64 n16, .int .i64 n17, .int .i64 n18, .int .i64 n19, .int .i64 n20, .int .i64 n21, .int .i64 n22]) from by intros; kernel_rfl) <|
  And.intro (L_len (C := kon) (t := 109) (by kernel_rfl)) <|
  And.intro (L_lenSl (C := kon) (t := 109) (e := 24) (by kernel_rfl)) <|
  And.intro (L_indexAddr (C := kon) (t := 109) (e := 24) (n := 1) (by kernel_rfl) (by kernel_rfl)) <|
  And.intro (L_loadC (C := kon) (t := 24) (by kernel_rfl)) <|
  And.intro (show ∀ (b o : Nat), evFieldAddr kon.P 45 (.pointer (some ⟨b, o, none⟩)) 3 = some (.pointer (some ⟨b, o + 3, none⟩)) from by intros; kernel_rfl) <|
  And.intro (L_buildSlice (C := kon) (t := 23) (e := 9) (n := 1) (z := (.string ByteArray.empty)) (zs := [.string ByteArray.empty]) (len := 2) (by kernel_rfl) (by kernel_rfl) (by kernel_rfl) (by kernel_rfl) (by kernel_rfl) (by kernel_rfl)) <|
  And.intro (show ∀ (s1 : ByteArray) (s2 : ByteArray), litRow 9 1 2 [.string ByteArray.empty] [(0, (.string s1)), (1, (.string s2))] = some (mkRow 9 2 [.string s1, .string s2]) from by intros; kernel_rfl) <|
  And.intro (L_sliceStr (C := kon) (t := 9) (by kernel_rfl)) <|
  And.intro (L_index (C := kon) (t := 9) (by kernel_rfl)) <|
  And.intro (L_makeMap (C := kon) (t := 115) (kt := 153) (et := 122) (by kernel_rfl)) <|
  And.intro (L_makeMap (C := kon) (t := 116) (kt := 3) (et := 3) (by kernel_rfl)) <|
  And.intro (L_makeMap (C := kon) (t := 117) (kt := 3) (et := 122) (by kernel_rfl)) <|
  And.intro (show ∀ (m1 : Option Nat) (m2 : Option Nat) (m3 : Option Nat), evBuild kon.P 119 [(0, (.map m1)), (1, (.map m2)), (2, (.map m3))] = some (.agg #[.map m1, .map m2, .map m3, .int .i64 0]) from by intros; kernel_rfl) <|
  And.intro (L_cmp (C := kon) (t := 122) (by kernel_rfl) (op := .neq) rfl) <|
  And.intro (L_cmpN (C := kon) (t := 122) (by kernel_rfl)) <|
  And.intro (show ∀ (x y : Operand) (h : Hp) (p i : Nat), cmpV kon.P .neq 122 x y h (.pointer (some ⟨p, i, none⟩)) (.pointer (none)) = some (.bool true) from by intros; kernel_rfl) <|
  And.intro (show ∀ (x y : Operand) (h : Hp) (p i : Nat), cmpV kon.P .neq 122 x y h (.pointer (none)) (.pointer (some ⟨p, i, none⟩)) = some (.bool true) from by intros; kernel_rfl) <|
  And.intro (show ∀ (x y : Operand) (h : Hp), cmpV kon.P .neq 122 x y h (.pointer (none)) (.pointer (none)) = some (.bool false) from by intros; kernel_rfl) <|
  And.intro (show ∀ (n1 : Int) (n2 : Int) (n3 : Int) (s4 : ByteArray) (b5 : Bool) (a6 : Option Addr) (k7 : Nat) (k8 : Nat) (n9 : Int) (n10 : Int) (n11 : Int) (n12 : Int) (n13 : Int), evBuild kon.P 126 [(0, (.agg #[.int .i64 n1, .int .i64 n2, .int .i64 n3, .string s4, .bool b5, .slice a6 k7 k8, .int .i64 n9, .int .i64 n10, .int .i64 n11, .int .i64 n12])), (1, (.int .i64 n13))] = some (.agg #[.int .i64 n1, .int .i64 n2, .int .i64 n3, .string s4, .bool b5, .slice a6 k7 k8, .int .i64 n9, .int .i64 n10, .int .i64 n11, .int .i64 n12, .int .i64 n13, .int .i64 0]) from by intros; kernel_rfl) <|
  And.intro (show ∀ (b o : Nat), evFieldAddr kon.P 119 (.pointer (some ⟨b, o, none⟩)) 2 = some (.pointer (some ⟨b, o + 2, none⟩)) from by intros; kernel_rfl) <|
  And.intro (L_loadC (C := kon) (t := 117) (by kernel_rfl)) <|
  And.intro (show ∀ (b o : Nat), evFieldAddr kon.P 119 (.pointer (some ⟨b, o, none⟩)) 3 = some (.pointer (some ⟨b, o + 3, none⟩)) from by intros; kernel_rfl) <|
  And.intro (show ∀ (b o : Nat), evFieldAddr kon.P 119 (.pointer (some ⟨b, o, none⟩)) 1 = some (.pointer (some ⟨b, o + 1, none⟩)) from by intros; kernel_rfl) <|
  And.intro (L_loadC (C := kon) (t := 116) (by kernel_rfl)) <|
  And.intro (L_cmp (C := kon) (t := 122) (by kernel_rfl) (op := .eql) rfl) <|
  (L_cmpE (C := kon) (t := 122) (by kernel_rfl))) :=
  And.intro (L_append (C := kon) (t := 101) (u := 101) (e := 4) (by kernel_rfl)) <|
  And.intro (show ∀ (n1 : Int) (n2 : Int) (a3 : Option Addr) (k4 : Nat) (k5 : Nat), evBuild kon.P 45 [(0, (.int .i64 n1)), (1, (.int .i64 n2)), (5, (.slice a3 k4 k5))] = some (.agg #[.int .i64 n1, .int .i64 n2, .int .i64 0, .string ByteArray.empty, .bool false, .slice a3 k4 k5, .int .i64 0, .int .i64 0, .int .i64 0, .int .i64 0]) from by intros; kernel_rfl) <|
  And.intro (L_indexAddr (C := kon) (t := 37) (e := 64) (n := 4) (by kernel_rfl) (by kernel_rfl)) <|
  And.intro (show ∀ (b o : Nat), evFieldAddr kon.P 64 (.pointer (some ⟨b, o, none⟩)) 0 = some (.pointer (some ⟨b, o + 0, none⟩)) from by intros; kernel_rfl) <|
  And.intro (L_store (C := kon) (t := 9) (n := 1) (by kernel_rfl)) <|
  And.intro (L_loadA (C := kon) (t := 64) (n := 4) (by kernel_rfl) (by kernel_rfl)) <|
  And.intro (L_bin (C := kon) (t := 64) (by kernel_rfl)) <|
  And.intro (show ∀ (b1 : Bool), evBuild kon.P 62 [(0, (.bool b1))] = some (.agg #[.bool b1, .bool false, .bool false]) from by intros; kernel_rfl) <|
  And.intro (L_loadA (C := kon) (t := 45) (n := 10) (by kernel_rfl) (by kernel_rfl)) <|
  And.intro (L_append (C := kon) (t := 23) (u := 23) (e := 9) (by kernel_rfl)) <|
  And.intro (show ∀ (n1 : Int), evBuild kon.P 39 [(0, (.int .i64 n1))] = some (.agg #[.int .i64 n1, .int .i64 0, .int .i64 0, .int .i64 0]) from by intros; kernel_rfl) <|
  And.intro (show ∀ (n1 : Int) (n2 : Int) (s3 : ByteArray), evBuild kon.P 45 [(0, (.int .i64 n1)), (1, (.int .i64 n2)), (3, (.string s3))] = some (.agg #[.int .i64 n1, .int .i64 n2, .int .i64 0, .string s3, .bool false, .slice none 0 0, .int .i64 0, .int .i64 0, .int .i64 0, .int .i64 0]) from by intros; kernel_rfl) <|
  And.intro (L_buildSlice (C := kon) (t := 109) (e := 24) (n := 1) (z := (.int .i64 0)) (zs := [.int .i64 0]) (len := 22) (by kernel_rfl) (by kernel_rfl) (by kernel_rfl) (by kernel_rfl) (by kernel_rfl) (by kernel_rfl)) <|
  And.intro (show ∀ (n1 : Int) (n2 : Int) (n3 : Int) (n4 : Int) (n5 : Int) (n6 : Int) (n7 : Int) (n8 : Int) (n9 : Int) (n10 : Int) (n11 : Int) (n12 : Int) (n13 : Int) (n14 : Int) (n15 : Int) (n16 : Int) (n17 : Int) (n18 : Int) (n19 : Int) (n20 : Int) (n21 : Int) (n22 : Int), litRow 24 1 22 [.int .i64 0] [(0, (.int .i64 n1)), (1, (.int .i64 n2)), (2, (.int .i64 n3)), (3, (.int .i64 n4)), (4, (.int .i64 n5)), (5, (.int .i64 n6)), (6, (.int .i64 n7)), (7, (.int .i64 n8)), (8, (.int .i64 n9)), (9, (.int .i64 n10)), (10, (.int .i64 n11)), (11, (.int .i64 n12)), (12, (.int .i64 n13)), (13, (.int .i64 n14)), (14, (.int .i64 n15)), (15, (.int .i64 n16)), (16, (.int .i64 n17)), (17, (.int .i64 n18)), (18, (.int .i64 n19)), (19, (.int .i64 n20)), (20, (.int .i64 n21)), (21, (.int .i64 n22))] = some (mkRow 24 22 [.int .i64 n1, .int .i64 n2, .int .i64 n3, .int .i64 n4, .int .i64 n5, .int .i64 n6, .int .i64 n7, .int .i64 n8, .int .i64 n9, .int .i64 n10, .int .i64 n11, .int .i64 n12, .int .i64 n13, .int .i64 n14, .int .i64 n15, .int .i64 n16, .int .i64 n17, .int .i64 n18, .int .i64 n19, .int .i64 n20, .int .i64 n21, .int .i64 n22]) from by intros; kernel_rfl) <|
  And.intro (L_len (C := kon) (t := 109) (by kernel_rfl)) <|
  And.intro (L_lenSl (C := kon) (t := 109) (e := 24) (by kernel_rfl)) <|
  And.intro (L_indexAddr (C := kon) (t := 109) (e := 24) (n := 1) (by kernel_rfl) (by kernel_rfl)) <|
  And.intro (L_loadC (C := kon) (t := 24) (by kernel_rfl)) <|
  And.intro (show ∀ (b o : Nat), evFieldAddr kon.P 45 (.pointer (some ⟨b, o, none⟩)) 3 = some (.pointer (some ⟨b, o + 3, none⟩)) from by intros; kernel_rfl) <|
  And.intro (L_buildSlice (C := kon) (t := 23) (e := 9) (n := 1) (z := (.string ByteArray.empty)) (zs := [.string ByteArray.empty]) (len := 2) (by kernel_rfl) (by kernel_rfl) (by kernel_rfl) (by kernel_rfl) (by kernel_rfl) (by kernel_rfl)) <|
  And.intro (show ∀ (s1 : ByteArray) (s2 : ByteArray), litRow 9 1 2 [.string ByteArray.empty] [(0, (.string s1)), (1, (.string s2))] = some (mkRow 9 2 [.string s1, .string s2]) from by intros; kernel_rfl) <|
  And.intro (L_sliceStr (C := kon) (t := 9) (by kernel_rfl)) <|
  And.intro (L_index (C := kon) (t := 9) (by kernel_rfl)) <|
  And.intro (L_makeMap (C := kon) (t := 115) (kt := 153) (et := 122) (by kernel_rfl)) <|
  And.intro (L_makeMap (C := kon) (t := 116) (kt := 3) (et := 3) (by kernel_rfl)) <|
  And.intro (L_makeMap (C := kon) (t := 117) (kt := 3) (et := 122) (by kernel_rfl)) <|
  And.intro (show ∀ (m1 : Option Nat) (m2 : Option Nat) (m3 : Option Nat), evBuild kon.P 119 [(0, (.map m1)), (1, (.map m2)), (2, (.map m3))] = some (.agg #[.map m1, .map m2, .map m3, .int .i64 0]) from by intros; kernel_rfl) <|
  And.intro (L_cmp (C := kon) (t := 122) (by kernel_rfl) (op := .neq) rfl) <|
  And.intro (L_cmpN (C := kon) (t := 122) (by kernel_rfl)) <|
  And.intro (show ∀ (x y : Operand) (h : Hp) (p i : Nat), cmpV kon.P .neq 122 x y h (.pointer (some ⟨p, i, none⟩)) (.pointer (none)) = some (.bool true) from by intros; kernel_rfl) <|
  And.intro (show ∀ (x y : Operand) (h : Hp) (p i : Nat), cmpV kon.P .neq 122 x y h (.pointer (none)) (.pointer (some ⟨p, i, none⟩)) = some (.bool true) from by intros; kernel_rfl) <|
  And.intro (show ∀ (x y : Operand) (h : Hp), cmpV kon.P .neq 122 x y h (.pointer (none)) (.pointer (none)) = some (.bool false) from by intros; kernel_rfl) <|
  And.intro (show ∀ (n1 : Int) (n2 : Int) (n3 : Int) (s4 : ByteArray) (b5 : Bool) (a6 : Option Addr) (k7 : Nat) (k8 : Nat) (n9 : Int) (n10 : Int) (n11 : Int) (n12 : Int) (n13 : Int), evBuild kon.P 126 [(0, (.agg #[.int .i64 n1, .int .i64 n2, .int .i64 n3, .string s4, .bool b5, .slice a6 k7 k8, .int .i64 n9, .int .i64 n10, .int .i64 n11, .int .i64 n12])), (1, (.int .i64 n13))] = some (.agg #[.int .i64 n1, .int .i64 n2, .int .i64 n3, .string s4, .bool b5, .slice a6 k7 k8, .int .i64 n9, .int .i64 n10, .int .i64 n11, .int .i64 n12, .int .i64 n13, .int .i64 0]) from by intros; kernel_rfl) <|
  And.intro (show ∀ (b o : Nat), evFieldAddr kon.P 119 (.pointer (some ⟨b, o, none⟩)) 2 = some (.pointer (some ⟨b, o + 2, none⟩)) from by intros; kernel_rfl) <|
  And.intro (L_loadC (C := kon) (t := 117) (by kernel_rfl)) <|
  And.intro (show ∀ (b o : Nat), evFieldAddr kon.P 119 (.pointer (some ⟨b, o, none⟩)) 3 = some (.pointer (some ⟨b, o + 3, none⟩)) from by intros; kernel_rfl) <|
  And.intro (show ∀ (b o : Nat), evFieldAddr kon.P 119 (.pointer (some ⟨b, o, none⟩)) 1 = some (.pointer (some ⟨b, o + 1, none⟩)) from by intros; kernel_rfl) <|
  And.intro (L_loadC (C := kon) (t := 116) (by kernel_rfl)) <|
  And.intro (L_cmp (C := kon) (t := 122) (by kernel_rfl) (op := .eql) rfl) <|
  (L_cmpE (C := kon) (t := 122) (by kernel_rfl))
theorem typ6 : type_of% (
  And.intro (show ∀ (x y : Operand) (h : Hp) (p i : Nat), cmpV kon.P .eql 122 x y h (.pointer (some ⟨p, i, none⟩)) (.pointer (none)) = some (.bool false) from by intros; kernel_rfl) <|
  And.intro (show ∀ (x y : Operand) (h : Hp) (p i : Nat), cmpV kon.P .eql 122 x y h (.pointer (none)) (.pointer (some ⟨p, i, none⟩)) = some (.bool false) from by intros; kernel_rfl) <|
  And.intro (show ∀ (x y : Operand) (h : Hp), cmpV kon.P .eql 122 x y h (.pointer (none)) (.pointer (none)) = some (.bool true) from by intros; kernel_rfl) <|
  And.intro (show ∀ (b o : Nat), evFieldAddr kon.P 126 (.pointer (some ⟨b, o, none⟩)) 0 = some (.pointer (some ⟨b, o + 0, none⟩)) from by intros; kernel_rfl) <|
  And.intro (L_store (C := kon) (t := 37) (n := 1) (by kernel_rfl)) <|
  And.intro (L_store (C := kon) (t := 39) (n := 4) (by kernel_rfl)) <|
  And.intro (show evBuild kon.P 45 [] = some (.agg #[.int .i64 0, .int .i64 0, .int .i64 0, .string ByteArray.empty, .bool false, .slice none 0 0, .int .i64 0, .int .i64 0, .int .i64 0, .int .i64 0]) from by intros; kernel_rfl) <|
  And.intro (show ∀ (b o : Nat), evFieldAddr kon.P 137 (.pointer (some ⟨b, o, none⟩)) 2 = some (.pointer (some ⟨b, o + 2, none⟩)) from by intros; kernel_rfl) <|
  And.intro (L_loadC (C := kon) (t := 23) (by kernel_rfl)) <|
  And.intro (L_store (C := kon) (t := 23) (n := 1) (by kernel_rfl)) <|
  And.intro (show ∀ (a1 : Option Addr) (n2 : Int) (a3 : Option Addr) (k4 : Nat) (k5 : Nat), evBuild kon.P 137 [(0, (.pointer a1)), (1, (.int .i64 n2)), (2, (.slice a3 k4 k5))] = some (.agg #[.pointer a1, .int .i64 n2, .slice a3 k4 k5, .int .i64 0]) from by intros; kernel_rfl) <|
  And.intro (show ∀ (n1 : Int) (n2 : Int) (n3 : Int), evBuild kon.P 66 [(1, (.int .i64 n1)), (5, (.int .i64 n2)), (6, (.int .i64 n3))] = some (.agg #[.int .i64 0, .int .i64 n1, .int .i64 0, .int .i64 0, .int .i64 0, .int .i64 n2, .int .i64 n3]) from by intros; kernel_rfl) <|
  And.intro (L_loadC (C := kon) (t := 40) (by kernel_rfl)) <|
  And.intro (L_alloc (C := kon) (t := 66) (z := (.agg #[.int .i64 0, .int .i64 0, .int .i64 0, .int .i64 0, .int .i64 0, .int .i64 0, .int .i64 0])) (cs := [.int .i64 0, .int .i64 0, .int .i64 0, .int .i64 0, .int .i64 0, .int .i64 0, .int .i64 0]) (by kernel_rfl) (by kernel_rfl) (by kernel_rfl)) <|
  And.intro (L_store (C := kon) (t := 66) (n := 7) (by kernel_rfl)) <|
  And.intro (show ∀ (b o : Nat), evFieldAddr kon.P 66 (.pointer (some ⟨b, o, none⟩)) 6 = some (.pointer (some ⟨b, o + 6, none⟩)) from by intros; kernel_rfl) <|
  And.intro (show ∀ (b o : Nat), evFieldAddr kon.P 66 (.pointer (some ⟨b, o, none⟩)) 5 = some (.pointer (some ⟨b, o + 5, none⟩)) from by intros; kernel_rfl) <|
  And.intro (show ∀ (b o : Nat), evFieldAddr kon.P 66 (.pointer (some ⟨b, o, none⟩)) 1 = some (.pointer (some ⟨b, o + 1, none⟩)) from by intros; kernel_rfl) <|
  And.intro (L_buildSlice (C := kon) (t := 74) (e := 73) (n := 2) (z := (.agg #[.int .i64 0, .string ByteArray.empty])) (zs := [.int .i64 0, .string ByteArray.empty]) (len := 2) (by kernel_rfl) (by kernel_rfl) (by kernel_rfl) (by kernel_rfl) (by kernel_rfl) (by kernel_rfl)) <|
  And.intro (show ∀ (n1 : Int) (s2 : ByteArray) (n3 : Int) (s4 : ByteArray), litRow 73 2 2 [.int .i64 0, .string ByteArray.empty] [(0, (.agg #[.int .i64 n1, .string s2])), (1, (.agg #[.int .i64 n3, .string s4]))] = some (mkRow 73 2 [.int .i64 n1, .string s2, .int .i64 n3, .string s4]) from by intros; kernel_rfl) <|
  And.intro (L_len (C := kon) (t := 74) (by kernel_rfl)) <|
  And.intro (L_lenSl (C := kon) (t := 74) (e := 73) (by kernel_rfl)) <|
  And.intro (L_alloc (C := kon) (t := 73) (z := (.agg #[.int .i64 0, .string ByteArray.empty])) (cs := [.int .i64 0, .string ByteArray.empty]) (by kernel_rfl) (by kernel_rfl) (by kernel_rfl)) <|
  And.intro (L_store (C := kon) (t := 73) (n := 2) (by kernel_rfl)) <|
  And.intro (L_makeMap (C := kon) (t := 143) (kt := 3) (et := 146) (by kernel_rfl)) <|
  And.intro (show ∀ (n1 : Int) (m2 : Option Nat), evBuild kon.P 145 [(0, (.int .i64 n1)), (3, (.map m2))] = some (.agg #[.int .i64 n1, .int .i64 0, .int .i64 0, .map m2]) from by intros; kernel_rfl) <|
  And.intro (show ∀ (b o : Nat), evFieldAddr kon.P 145 (.pointer (some ⟨b, o, none⟩)) 2 = some (.pointer (some ⟨b, o + 2, none⟩)) from by intros; kernel_rfl) <|
  And.intro (show ∀ (b o : Nat), evFieldAddr kon.P 145 (.pointer (some ⟨b, o, none⟩)) 3 = some (.pointer (some ⟨b, o + 3, none⟩)) from by intros; kernel_rfl) <|
  And.intro (L_loadC (C := kon) (t := 143) (by kernel_rfl)) <|
  And.intro (show ∀ (b o : Nat), evFieldAddr kon.P 145 (.pointer (some ⟨b, o, none⟩)) 1 = some (.pointer (some ⟨b, o + 1, none⟩)) from by intros; kernel_rfl) <|
  And.intro (show evBuild kon.P 86 [] = some (.agg #[.int .i64 0, .int .i64 0, .bool false, .bool false, .bool false, .int .i64 0, .int .i64 0, .int .i64 0, .int .i64 0]) from by intros; kernel_rfl) <|
  And.intro (show ∀ (n1 : Int) (n2 : Int) (b3 : Bool) (b4 : Bool) (b5 : Bool) (n6 : Int) (n7 : Int) (n8 : Int) (n9 : Int), evBuild kon.P 86 [(0, (.int .i64 n1)), (1, (.int .i64 n2)), (2, (.agg #[.bool b3, .bool b4, .bool b5])), (3, (.agg #[.int .i64 n6, .int .i64 n7, .int .i64 n8, .int .i64 n9]))] = some (.agg #[.int .i64 n1, .int .i64 n2, .bool b3, .bool b4, .bool b5, .int .i64 n6, .int .i64 n7, .int .i64 n8, .int .i64 n9]) from by intros; kernel_rfl) <|
  And.intro (show ∀ (b o : Nat), evFieldAddr kon.P 45 (.pointer (some ⟨b, o, none⟩)) 4 = some (.pointer (some ⟨b, o + 4, none⟩)) from by intros; kernel_rfl) <|
  And.intro (show ∀ (b o : Nat), evFieldAddr kon.P 64 (.pointer (some ⟨b, o, none⟩)) 1 = some (.pointer (some ⟨b, o + 1, none⟩)) from by intros; kernel_rfl) <|
  And.intro (L_len (C := kon) (t := 146) (by kernel_rfl)) <|
  And.intro (L_lenSl (C := kon) (t := 146) (e := 222) (by kernel_rfl)) <|
  And.intro (show ∀ (b o : Nat), evFieldAddr kon.P 126 (.pointer (some ⟨b, o, none⟩)) 2 = some (.pointer (some ⟨b, o + 11, none⟩)) from by intros; kernel_rfl) <|
  And.intro (show ∀ (b o : Nat), evFieldAddr kon.P 126 (.pointer (some ⟨b, o, none⟩)) 1 = some (.pointer (some ⟨b, o + 10, none⟩)) from by intros; kernel_rfl) <|
  And.intro (L_alloc (C := kon) (t := 160) (z := (.agg #[.pointer none, .slice none 0 0])) (cs := [.pointer none, .slice none 0 0]) (by kernel_rfl) (by kernel_rfl) (by kernel_rfl)) <|
  (show ∀ (b o : Nat), evFieldAddr kon.P 119 (.pointer (some ⟨b, o, none⟩)) 0 = some (.pointer (some ⟨b, o + 0, none⟩)) from by intros; kernel_rfl)) :=
  And.intro (show ∀ (x y : Operand) (h : Hp) (p i : Nat), cmpV kon.P .eql 122 x y h (.pointer (some ⟨p, i, none⟩)) (.pointer (none)) = some (.bool false) from by intros; kernel_rfl) <|
  And.intro (show ∀ (x y : Operand) (h : Hp) (p i : Nat), cmpV kon.P .eql 122 x y h (.pointer (none)) (.pointer (some ⟨p, i, none⟩)) = some (.bool false) from by intros; kernel_rfl) <|
  And.intro (show ∀ (x y : Operand) (h : Hp), cmpV kon.P .eql 122 x y h (.pointer (none)) (.pointer (none)) = some (.bool true) from by intros; kernel_rfl) <|
  And.intro (show ∀ (b o : Nat), evFieldAddr kon.P 126 (.pointer (some ⟨b, o, none⟩)) 0 = some (.pointer (some ⟨b, o + 0, none⟩)) from by intros; kernel_rfl) <|
  And.intro (L_store (C := kon) (t := 37) (n := 1) (by kernel_rfl)) <|
  And.intro (L_store (C := kon) (t := 39) (n := 4) (by kernel_rfl)) <|
  And.intro (show evBuild kon.P 45 [] = some (.agg #[.int .i64 0, .int .i64 0, .int .i64 0, .string ByteArray.empty, .bool false, .slice none 0 0, .int .i64 0, .int .i64 0, .int .i64 0, .int .i64 0]) from by intros; kernel_rfl) <|
  And.intro (show ∀ (b o : Nat), evFieldAddr kon.P 137 (.pointer (some ⟨b, o, none⟩)) 2 = some (.pointer (some ⟨b, o + 2, none⟩)) from by intros; kernel_rfl) <|
  And.intro (L_loadC (C := kon) (t := 23) (by kernel_rfl)) <|
  And.intro (L_store (C := kon) (t := 23) (n := 1) (by kernel_rfl)) <|
  And.intro (show ∀ (a1 : Option Addr) (n2 : Int) (a3 : Option Addr) (k4 : Nat) (k5 : Nat), evBuild kon.P 137 [(0, (.pointer a1)), (1, (.int .i64 n2)), (2, (.slice a3 k4 k5))] = some (.agg #[.pointer a1, .int .i64 n2, .slice a3 k4 k5, .int .i64 0]) from by intros; kernel_rfl) <|
  And.intro (show ∀ (n1 : Int) (n2 : Int) (n3 : Int), evBuild kon.P 66 [(1, (.int .i64 n1)), (5, (.int .i64 n2)), (6, (.int .i64 n3))] = some (.agg #[.int .i64 0, .int .i64 n1, .int .i64 0, .int .i64 0, .int .i64 0, .int .i64 n2, .int .i64 n3]) from by intros; kernel_rfl) <|
  And.intro (L_loadC (C := kon) (t := 40) (by kernel_rfl)) <|
  And.intro (L_alloc (C := kon) (t := 66) (z := (.agg #[.int .i64 0, .int .i64 0, .int .i64 0, .int .i64 0, .int .i64 0, .int .i64 0, .int .i64 0])) (cs := [.int .i64 0, .int .i64 0, .int .i64 0, .int .i64 0, .int .i64 0, .int .i64 0, .int .i64 0]) (by kernel_rfl) (by kernel_rfl) (by kernel_rfl)) <|
  And.intro (L_store (C := kon) (t := 66) (n := 7) (by kernel_rfl)) <|
  And.intro (show ∀ (b o : Nat), evFieldAddr kon.P 66 (.pointer (some ⟨b, o, none⟩)) 6 = some (.pointer (some ⟨b, o + 6, none⟩)) from by intros; kernel_rfl) <|
  And.intro (show ∀ (b o : Nat), evFieldAddr kon.P 66 (.pointer (some ⟨b, o, none⟩)) 5 = some (.pointer (some ⟨b, o + 5, none⟩)) from by intros; kernel_rfl) <|
  And.intro (show ∀ (b o : Nat), evFieldAddr kon.P 66 (.pointer (some ⟨b, o, none⟩)) 1 = some (.pointer (some ⟨b, o + 1, none⟩)) from by intros; kernel_rfl) <|
  And.intro (L_buildSlice (C := kon) (t := 74) (e := 73) (n := 2) (z := (.agg #[.int .i64 0, .string ByteArray.empty])) (zs := [.int .i64 0, .string ByteArray.empty]) (len := 2) (by kernel_rfl) (by kernel_rfl) (by kernel_rfl) (by kernel_rfl) (by kernel_rfl) (by kernel_rfl)) <|
  And.intro (show ∀ (n1 : Int) (s2 : ByteArray) (n3 : Int) (s4 : ByteArray), litRow 73 2 2 [.int .i64 0, .string ByteArray.empty] [(0, (.agg #[.int .i64 n1, .string s2])), (1, (.agg #[.int .i64 n3, .string s4]))] = some (mkRow 73 2 [.int .i64 n1, .string s2, .int .i64 n3, .string s4]) from by intros; kernel_rfl) <|
  And.intro (L_len (C := kon) (t := 74) (by kernel_rfl)) <|
  And.intro (L_lenSl (C := kon) (t := 74) (e := 73) (by kernel_rfl)) <|
  And.intro (L_alloc (C := kon) (t := 73) (z := (.agg #[.int .i64 0, .string ByteArray.empty])) (cs := [.int .i64 0, .string ByteArray.empty]) (by kernel_rfl) (by kernel_rfl) (by kernel_rfl)) <|
  And.intro (L_store (C := kon) (t := 73) (n := 2) (by kernel_rfl)) <|
  And.intro (L_makeMap (C := kon) (t := 143) (kt := 3) (et := 146) (by kernel_rfl)) <|
  And.intro (show ∀ (n1 : Int) (m2 : Option Nat), evBuild kon.P 145 [(0, (.int .i64 n1)), (3, (.map m2))] = some (.agg #[.int .i64 n1, .int .i64 0, .int .i64 0, .map m2]) from by intros; kernel_rfl) <|
  And.intro (show ∀ (b o : Nat), evFieldAddr kon.P 145 (.pointer (some ⟨b, o, none⟩)) 2 = some (.pointer (some ⟨b, o + 2, none⟩)) from by intros; kernel_rfl) <|
  And.intro (show ∀ (b o : Nat), evFieldAddr kon.P 145 (.pointer (some ⟨b, o, none⟩)) 3 = some (.pointer (some ⟨b, o + 3, none⟩)) from by intros; kernel_rfl) <|
  And.intro (L_loadC (C := kon) (t := 143) (by kernel_rfl)) <|
  And.intro (show ∀ (b o : Nat), evFieldAddr kon.P 145 (.pointer (some ⟨b, o, none⟩)) 1 = some (.pointer (some ⟨b, o + 1, none⟩)) from by intros; kernel_rfl) <|
  And.intro (show evBuild kon.P 86 [] = some (.agg #[.int .i64 0, .int .i64 0, .bool false, .bool false, .bool false, .int .i64 0, .int .i64 0, .int .i64 0, .int .i64 0]) from by intros; kernel_rfl) <|
  And.intro (show ∀ (n1 : Int) (n2 : Int) (b3 : Bool) (b4 : Bool) (b5 : Bool) (n6 : Int) (n7 : Int) (n8 : Int) (n9 : Int), evBuild kon.P 86 [(0, (.int .i64 n1)), (1, (.int .i64 n2)), (2, (.agg #[.bool b3, .bool b4, .bool b5])), (3, (.agg #[.int .i64 n6, .int .i64 n7, .int .i64 n8, .int .i64 n9]))] = some (.agg #[.int .i64 n1, .int .i64 n2, .bool b3, .bool b4, .bool b5, .int .i64 n6, .int .i64 n7, .int .i64 n8, .int .i64 n9]) from by intros; kernel_rfl) <|
  And.intro (show ∀ (b o : Nat), evFieldAddr kon.P 45 (.pointer (some ⟨b, o, none⟩)) 4 = some (.pointer (some ⟨b, o + 4, none⟩)) from by intros; kernel_rfl) <|
  And.intro (show ∀ (b o : Nat), evFieldAddr kon.P 64 (.pointer (some ⟨b, o, none⟩)) 1 = some (.pointer (some ⟨b, o + 1, none⟩)) from by intros; kernel_rfl) <|
  And.intro (L_len (C := kon) (t := 146) (by kernel_rfl)) <|
  And.intro (L_lenSl (C := kon) (t := 146) (e := 222) (by kernel_rfl)) <|
  And.intro (show ∀ (b o : Nat), evFieldAddr kon.P 126 (.pointer (some ⟨b, o, none⟩)) 2 = some (.pointer (some ⟨b, o + 11, none⟩)) from by intros; kernel_rfl) <|
  And.intro (show ∀ (b o : Nat), evFieldAddr kon.P 126 (.pointer (some ⟨b, o, none⟩)) 1 = some (.pointer (some ⟨b, o + 10, none⟩)) from by intros; kernel_rfl) <|
  And.intro (L_alloc (C := kon) (t := 160) (z := (.agg #[.pointer none, .slice none 0 0])) (cs := [.pointer none, .slice none 0 0]) (by kernel_rfl) (by kernel_rfl) (by kernel_rfl)) <|
  (show ∀ (b o : Nat), evFieldAddr kon.P 119 (.pointer (some ⟨b, o, none⟩)) 0 = some (.pointer (some ⟨b, o + 0, none⟩)) from by intros; kernel_rfl)
theorem typ7 : type_of% (
  And.intro (L_loadC (C := kon) (t := 115) (by kernel_rfl)) <|
  And.intro (show ∀ (n1 : Int) (s2 : ByteArray), evBuild kon.P 153 [(0, (.int .i64 n1)), (1, (.string s2))] = some (.agg #[.int .i64 n1, .string s2]) from by intros; kernel_rfl) <|
  And.intro (show ∀ (n1 : Int) (n2 : Int), evBuild kon.P 45 [(0, (.int .i64 n1)), (2, (.int .i64 n2))] = some (.agg #[.int .i64 n1, .int .i64 0, .int .i64 n2, .string ByteArray.empty, .bool false, .slice none 0 0, .int .i64 0, .int .i64 0, .int .i64 0, .int .i64 0]) from by intros; kernel_rfl) <|
  And.intro (L_alloc (C := kon) (t := 64) (z := (.agg #[.string ByteArray.empty, .bool false, .bool false, .bool false])) (cs := [.string ByteArray.empty, .bool false, .bool false, .bool false]) (by kernel_rfl) (by kernel_rfl) (by kernel_rfl)) <|
  And.intro (L_store (C := kon) (t := 64) (n := 4) (by kernel_rfl)) <|
  And.intro (L_bin (C := kon) (t := 37) (by kernel_rfl)) <|
  And.intro (show ∀ (x y : Operand) (p i l q : Nat), evBin kon.P .eql 37 x y (.slice (some ⟨p, i, none⟩) l q) (.slice none 0 0) = some (.bool false) from by intros; kernel_rfl) <|
  And.intro (show ∀ (x y : Operand), evBin kon.P .eql 37 x y (.slice none 0 0) (.slice none 0 0) = some (.bool true) from by intros; kernel_rfl) <|
  And.intro (L_buildSlice (C := kon) (t := 37) (e := 64) (n := 4) (z := (.agg #[.string ByteArray.empty, .bool false, .bool false, .bool false])) (zs := [.string ByteArray.empty, .bool false, .bool false, .bool false]) (len := 0) (by kernel_rfl) (by kernel_rfl) (by kernel_rfl) (by kernel_rfl) (by kernel_rfl) (by kernel_rfl)) <|
  And.intro (show litRow 64 4 0 [.string ByteArray.empty, .bool false, .bool false, .bool false] [] = some (mkRow 64 0 []) from by intros; kernel_rfl) <|
  And.intro (L_append (C := kon) (t := 37) (u := 37) (e := 64) (by kernel_rfl)) <|
  And.intro (show ∀ (a1 : Option Addr) (a2 : Option Addr) (k3 : Nat) (k4 : Nat), evBuild kon.P 137 [(0, (.pointer a1)), (2, (.slice a2 k3 k4))] = some (.agg #[.pointer a1, .int .i64 0, .slice a2 k3 k4, .int .i64 0]) from by intros; kernel_rfl) <|
  And.intro (show ∀ (b o : Nat), evFieldAddr kon.P 137 (.pointer (some ⟨b, o, none⟩)) 0 = some (.pointer (some ⟨b, o + 0, none⟩)) from by intros; kernel_rfl) <|
  And.intro (show ∀ (b o : Nat), evFieldAddr kon.P 137 (.pointer (some ⟨b, o, none⟩)) 1 = some (.pointer (some ⟨b, o + 1, none⟩)) from by intros; kernel_rfl) <|
  And.intro (show ∀ (b o : Nat), evFieldAddr kon.P 66 (.pointer (some ⟨b, o, none⟩)) 2 = some (.pointer (some ⟨b, o + 2, none⟩)) from by intros; kernel_rfl) <|
  And.intro (show ∀ (b o : Nat), evFieldAddr kon.P 66 (.pointer (some ⟨b, o, none⟩)) 0 = some (.pointer (some ⟨b, o + 0, none⟩)) from by intros; kernel_rfl) <|
  And.intro (show ∀ (b o : Nat), evFieldAddr kon.P 66 (.pointer (some ⟨b, o, none⟩)) 4 = some (.pointer (some ⟨b, o + 4, none⟩)) from by intros; kernel_rfl) <|
  And.intro (show ∀ (b o : Nat), evFieldAddr kon.P 66 (.pointer (some ⟨b, o, none⟩)) 3 = some (.pointer (some ⟨b, o + 3, none⟩)) from by intros; kernel_rfl) <|
  And.intro (show ∀ (b o : Nat), evFieldAddr kon.P 73 (.pointer (some ⟨b, o, none⟩)) 1 = some (.pointer (some ⟨b, o + 1, none⟩)) from by intros; kernel_rfl) <|
  And.intro (show ∀ (b o : Nat), evFieldAddr kon.P 73 (.pointer (some ⟨b, o, none⟩)) 0 = some (.pointer (some ⟨b, o + 0, none⟩)) from by intros; kernel_rfl) <|
  And.intro (show ∀ (b o : Nat), evFieldAddr kon.P 145 (.pointer (some ⟨b, o, none⟩)) 0 = some (.pointer (some ⟨b, o + 0, none⟩)) from by intros; kernel_rfl) <|
  (show ∀ (b o : Nat), evFieldAddr kon.P 137 (.pointer (some ⟨b, o, none⟩)) 3 = some (.pointer (some ⟨b, o + 3, none⟩)) from by intros; kernel_rfl)) :=
  And.intro (L_loadC (C := kon) (t := 115) (by kernel_rfl)) <|
  And.intro (show ∀ (n1 : Int) (s2 : ByteArray), evBuild kon.P 153 [(0, (.int .i64 n1)), (1, (.string s2))] = some (.agg #[.int .i64 n1, .string s2]) from by intros; kernel_rfl) <|
  And.intro (show ∀ (n1 : Int) (n2 : Int), evBuild kon.P 45 [(0, (.int .i64 n1)), (2, (.int .i64 n2))] = some (.agg #[.int .i64 n1, .int .i64 0, .int .i64 n2, .string ByteArray.empty, .bool false, .slice none 0 0, .int .i64 0, .int .i64 0, .int .i64 0, .int .i64 0]) from by intros; kernel_rfl) <|
  And.intro (L_alloc (C := kon) (t := 64) (z := (.agg #[.string ByteArray.empty, .bool false, .bool false, .bool false])) (cs := [.string ByteArray.empty, .bool false, .bool false, .bool false]) (by kernel_rfl) (by kernel_rfl) (by kernel_rfl)) <|
  And.intro (L_store (C := kon) (t := 64) (n := 4) (by kernel_rfl)) <|
  And.intro (L_bin (C := kon) (t := 37) (by kernel_rfl)) <|
  And.intro (show ∀ (x y : Operand) (p i l q : Nat), evBin kon.P .eql 37 x y (.slice (some ⟨p, i, none⟩) l q) (.slice none 0 0) = some (.bool false) from by intros; kernel_rfl) <|
  And.intro (show ∀ (x y : Operand), evBin kon.P .eql 37 x y (.slice none 0 0) (.slice none 0 0) = some (.bool true) from by intros; kernel_rfl) <|
  And.intro (L_buildSlice (C := kon) (t := 37) (e := 64) (n := 4) (z := (.agg #[.string ByteArray.empty, .bool false, .bool false, .bool false])) (zs := [.string ByteArray.empty, .bool false, .bool false, .bool false]) (len := 0) (by kernel_rfl) (by kernel_rfl) (by kernel_rfl) (by kernel_rfl) (by kernel_rfl) (by kernel_rfl)) <|
  And.intro (show litRow 64 4 0 [.string ByteArray.empty, .bool false, .bool false, .bool false] [] = some (mkRow 64 0 []) from by intros; kernel_rfl) <|
  And.intro (L_append (C := kon) (t := 37) (u := 37) (e := 64) (by kernel_rfl)) <|
  And.intro (show ∀ (a1 : Option Addr) (a2 : Option Addr) (k3 : Nat) (k4 : Nat), evBuild kon.P 137 [(0, (.pointer a1)), (2, (.slice a2 k3 k4))] = some (.agg #[.pointer a1, .int .i64 0, .slice a2 k3 k4, .int .i64 0]) from by intros; kernel_rfl) <|
  And.intro (show ∀ (b o : Nat), evFieldAddr kon.P 137 (.pointer (some ⟨b, o, none⟩)) 0 = some (.pointer (some ⟨b, o + 0, none⟩)) from by intros; kernel_rfl) <|
  And.intro (show ∀ (b o : Nat), evFieldAddr kon.P 137 (.pointer (some ⟨b, o, none⟩)) 1 = some (.pointer (some ⟨b, o + 1, none⟩)) from by intros; kernel_rfl) <|
  And.intro (show ∀ (b o : Nat), evFieldAddr kon.P 66 (.pointer (some ⟨b, o, none⟩)) 2 = some (.pointer (some ⟨b, o + 2, none⟩)) from by intros; kernel_rfl) <|
  And.intro (show ∀ (b o : Nat), evFieldAddr kon.P 66 (.pointer (some ⟨b, o, none⟩)) 0 = some (.pointer (some ⟨b, o + 0, none⟩)) from by intros; kernel_rfl) <|
  And.intro (show ∀ (b o : Nat), evFieldAddr kon.P 66 (.pointer (some ⟨b, o, none⟩)) 4 = some (.pointer (some ⟨b, o + 4, none⟩)) from by intros; kernel_rfl) <|
  And.intro (show ∀ (b o : Nat), evFieldAddr kon.P 66 (.pointer (some ⟨b, o, none⟩)) 3 = some (.pointer (some ⟨b, o + 3, none⟩)) from by intros; kernel_rfl) <|
  And.intro (show ∀ (b o : Nat), evFieldAddr kon.P 73 (.pointer (some ⟨b, o, none⟩)) 1 = some (.pointer (some ⟨b, o + 1, none⟩)) from by intros; kernel_rfl) <|
  And.intro (show ∀ (b o : Nat), evFieldAddr kon.P 73 (.pointer (some ⟨b, o, none⟩)) 0 = some (.pointer (some ⟨b, o + 0, none⟩)) from by intros; kernel_rfl) <|
  And.intro (show ∀ (b o : Nat), evFieldAddr kon.P 145 (.pointer (some ⟨b, o, none⟩)) 0 = some (.pointer (some ⟨b, o + 0, none⟩)) from by intros; kernel_rfl) <|
  (show ∀ (b o : Nat), evFieldAddr kon.P 137 (.pointer (some ⟨b, o, none⟩)) 3 = some (.pointer (some ⟨b, o + 3, none⟩)) from by intros; kernel_rfl)
theorem typs : type_of% typ1 ∧ type_of% typ2 ∧ type_of% typ3 ∧ type_of% typ4 ∧ type_of% typ5 ∧ type_of% typ6 ∧ type_of% typ7 :=
  ⟨typ1, typ2, typ3, typ4, typ5, typ6, typ7⟩
end Go.Proofs.YtncmgiddcefpcaaDoor
