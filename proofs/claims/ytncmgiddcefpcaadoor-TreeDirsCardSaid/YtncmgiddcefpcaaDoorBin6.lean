/- Texts joined: what the claim needs of them. No condition. -/
import Derived.Test.YtncmgiddcefpcaaDoorEvM3
import Derived.Test.YtncmgiddcefpcaaDoorBin4
import Derived.Test.YtncmgiddcefpcaaDoorBin5
namespace Go.Proofs.YtncmgiddcefpcaaDoor
open Go Go.Ev
set_option maxRecDepth 100000
theorem typ1 : type_of% (
  And.intro (L_len (C := kon) (t := 9) (by kernel_rfl)) <|
  And.intro (L_lenStr (C := kon) (t := 9) (by kernel_rfl)) <|
  And.intro (L_bin (C := kon) (t := 3) (by kernel_rfl)) <|
  And.intro (L_bin (C := kon) (t := 4) (by kernel_rfl)) <|
  And.intro (show ∀ (x y : Operand) (a c : Bool), evBin kon.P .neq 4 x y (.bool a) (.bool c) = some (.bool (!(a == c))) from by intros; kernel_rfl) <|
  And.intro (L_len (C := kon) (t := 23) (by kernel_rfl)) <|
  And.intro (L_lenSl (C := kon) (t := 23) (e := 9) (by kernel_rfl)) <|
  And.intro (L_bin (C := kon) (t := 9) (by kernel_rfl)) <|
  And.intro (L_bin (C := kon) (t := 24) (by kernel_rfl)) <|
  And.intro (L_sliceSl (C := kon) (t := 23) (e := 9) (n := 1) (by kernel_rfl) (by kernel_rfl)) <|
  And.intro (L_indexAddr (C := kon) (t := 23) (e := 9) (n := 1) (by kernel_rfl) (by kernel_rfl)) <|
  And.intro (L_loadC (C := kon) (t := 9) (by kernel_rfl)) <|
  And.intro (show ∀ (x y : Operand) (a c : Bool), evBin kon.P .eql 4 x y (.bool a) (.bool c) = some (.bool (a == c)) from by intros; kernel_rfl) <|
  And.intro (L_buildSlice (C := kon) (t := 23) (e := 9) (n := 1) (z := (.string ByteArray.empty)) (zs := [.string ByteArray.empty]) (len := 7) (by kernel_rfl) (by kernel_rfl) (by kernel_rfl) (by kernel_rfl) (by kernel_rfl) (by kernel_rfl)) <|
  And.intro (show ∀ (s1 : ByteArray) (s2 : ByteArray) (s3 : ByteArray) (s4 : ByteArray) (s5 : ByteArray) (s6 : ByteArray) (s7 : ByteArray), litRow 9 1 7 [.string ByteArray.empty] [(0, (.string s1)), (1, (.string s2)), (2, (.string s3)), (3, (.string s4)), (4, (.string s5)), (5, (.string s6)), (6, (.string s7))] = some (mkRow 9 7 [.string s1, .string s2, .string s3, .string s4, .string s5, .string s6, .string s7]) from by intros; kernel_rfl) <|
  And.intro (L_buildSlice (C := kon) (t := 23) (e := 9) (n := 1) (z := (.string ByteArray.empty)) (zs := [.string ByteArray.empty]) (len := 8) (by kernel_rfl) (by kernel_rfl) (by kernel_rfl) (by kernel_rfl) (by kernel_rfl) (by kernel_rfl)) <|
  And.intro (show ∀ (s1 : ByteArray) (s2 : ByteArray) (s3 : ByteArray) (s4 : ByteArray) (s5 : ByteArray) (s6 : ByteArray) (s7 : ByteArray) (s8 : ByteArray), litRow 9 1 8 [.string ByteArray.empty] [(0, (.string s1)), (1, (.string s2)), (2, (.string s3)), (3, (.string s4)), (4, (.string s5)), (5, (.string s6)), (6, (.string s7)), (7, (.string s8))] = some (mkRow 9 8 [.string s1, .string s2, .string s3, .string s4, .string s5, .string s6, .string s7, .string s8]) from by intros; kernel_rfl) <|
  And.intro (L_convInt (C := kon) (s := 5) (t := 3) (k := .i64) (by kernel_rfl) (by kernel_rfl)) <|
  And.intro (show ∀ (n : Int), prunS kon.P (convert 5 3 (.int .u8 n)) = some (.int .i64 (IntKind.i64.wrap n)) from by intros; kernel_rfl) <|
  And.intro (L_indexAddr (C := kon) (t := 35) (e := 5) (n := 1) (by kernel_rfl) (by kernel_rfl)) <|
  And.intro (L_store (C := kon) (t := 5) (n := 1) (by kernel_rfl)) <|
  And.intro (L_bin (C := kon) (t := 5) (by kernel_rfl)) <|
  And.intro (L_convBytes (C := kon) (s := 35) (t := 9) (e := 5) (by kernel_rfl)) <|
  And.intro (L_cmp (C := kon) (t := 40) (by kernel_rfl) (op := .eql) rfl) <|
  And.intro (L_cmpE (C := kon) (t := 40) (by kernel_rfl)) <|
  And.intro (show ∀ (x y : Operand) (h : Hp) (p i : Nat), cmpV kon.P .eql 40 x y h (.pointer (some ⟨p, i, none⟩)) (.pointer (none)) = some (.bool false) from by intros; kernel_rfl) <|
  And.intro (show ∀ (x y : Operand) (h : Hp) (p i : Nat), cmpV kon.P .eql 40 x y h (.pointer (none)) (.pointer (some ⟨p, i, none⟩)) = some (.bool false) from by intros; kernel_rfl) <|
  And.intro (show ∀ (x y : Operand) (h : Hp), cmpV kon.P .eql 40 x y h (.pointer (none)) (.pointer (none)) = some (.bool true) from by intros; kernel_rfl) <|
  And.intro (L_len (C := kon) (t := 37) (by kernel_rfl)) <|
  And.intro (L_lenSl (C := kon) (t := 37) (e := 64) (by kernel_rfl)) <|
  And.intro (L_cmp (C := kon) (t := 40) (by kernel_rfl) (op := .neq) rfl) <|
  And.intro (L_cmpN (C := kon) (t := 40) (by kernel_rfl)) <|
  And.intro (show ∀ (x y : Operand) (h : Hp) (p i : Nat), cmpV kon.P .neq 40 x y h (.pointer (some ⟨p, i, none⟩)) (.pointer (none)) = some (.bool true) from by intros; kernel_rfl) <|
  And.intro (show ∀ (x y : Operand) (h : Hp) (p i : Nat), cmpV kon.P .neq 40 x y h (.pointer (none)) (.pointer (some ⟨p, i, none⟩)) = some (.bool true) from by intros; kernel_rfl) <|
  And.intro (show ∀ (x y : Operand) (h : Hp), cmpV kon.P .neq 40 x y h (.pointer (none)) (.pointer (none)) = some (.bool false) from by intros; kernel_rfl) <|
  And.intro (L_convInt (C := kon) (s := 3) (t := 5) (k := .u8) (by kernel_rfl) (by kernel_rfl)) <|
  And.intro (show ∀ (n : Int), prunS kon.P (convert 3 5 (.int .i64 n)) = some (.int .u8 (IntKind.u8.wrap n)) from by intros; kernel_rfl) <|
  And.intro (L_buildSlice (C := kon) (t := 35) (e := 5) (n := 1) (z := (.int .u8 0)) (zs := [.int .u8 0]) (len := 1) (by kernel_rfl) (by kernel_rfl) (by kernel_rfl) (by kernel_rfl) (by kernel_rfl) (by kernel_rfl)) <|
  And.intro (show ∀ (n1 : Int), litRow 5 1 1 [.int .u8 0] [(0, (.int .u8 n1))] = some (mkRow 5 1 [.int .u8 n1]) from by intros; kernel_rfl) <|
  (show ∀ (n1 : Int) (n2 : Int), evBuild kon.P 45 [(0, (.int .i64 n1)), (1, (.int .i64 n2))] = some (.agg #[.int .i64 n1, .int .i64 n2, .int .i64 0, .string ByteArray.empty, .bool false, .slice none 0 0, .int .i64 0, .int .i64 0, .int .i64 0, .int .i64 0]) from by intros; kernel_rfl)) :=
  And.intro (L_len (C := kon) (t := 9) (by kernel_rfl)) <|
  And.intro (L_lenStr (C := kon) (t := 9) (by kernel_rfl)) <|
  And.intro (L_bin (C := kon) (t := 3) (by kernel_rfl)) <|
  And.intro (L_bin (C := kon) (t := 4) (by kernel_rfl)) <|
  And.intro (show ∀ (x y : Operand) (a c : Bool), evBin kon.P .neq 4 x y (.bool a) (.bool c) = some (.bool (!(a == c))) from by intros; kernel_rfl) <|
  And.intro (L_len (C := kon) (t := 23) (by kernel_rfl)) <|
  And.intro (L_lenSl (C := kon) (t := 23) (e := 9) (by kernel_rfl)) <|
  And.intro (L_bin (C := kon) (t := 9) (by kernel_rfl)) <|
  And.intro (L_bin (C := kon) (t := 24) (by kernel_rfl)) <|
  And.intro (L_sliceSl (C := kon) (t := 23) (e := 9) (n := 1) (by kernel_rfl) (by kernel_rfl)) <|
  And.intro (L_indexAddr (C := kon) (t := 23) (e := 9) (n := 1) (by kernel_rfl) (by kernel_rfl)) <|
  And.intro (L_loadC (C := kon) (t := 9) (by kernel_rfl)) <|
  And.intro (show ∀ (x y : Operand) (a c : Bool), evBin kon.P .eql 4 x y (.bool a) (.bool c) = some (.bool (a == c)) from by intros; kernel_rfl) <|
  And.intro (L_buildSlice (C := kon) (t := 23) (e := 9) (n := 1) (z := (.string ByteArray.empty)) (zs := [.string ByteArray.empty]) (len := 7) (by kernel_rfl) (by kernel_rfl) (by kernel_rfl) (by kernel_rfl) (by kernel_rfl) (by kernel_rfl)) <|
  And.intro (show ∀ (s1 : ByteArray) (s2 : ByteArray) (s3 : ByteArray) (s4 : ByteArray) (s5 : ByteArray) (s6 : ByteArray) (s7 : ByteArray), litRow 9 1 7 [.string ByteArray.empty] [(0, (.string s1)), (1, (.string s2)), (2, (.string s3)), (3, (.string s4)), (4, (.string s5)), (5, (.string s6)), (6, (.string s7))] = some (mkRow 9 7 [.string s1, .string s2, .string s3, .string s4, .string s5, .string s6, .string s7]) from by intros; kernel_rfl) <|
  And.intro (L_buildSlice (C := kon) (t := 23) (e := 9) (n := 1) (z := (.string ByteArray.empty)) (zs := [.string ByteArray.empty]) (len := 8) (by kernel_rfl) (by kernel_rfl) (by kernel_rfl) (by kernel_rfl) (by kernel_rfl) (by kernel_rfl)) <|
  And.intro (show ∀ (s1 : ByteArray) (s2 : ByteArray) (s3 : ByteArray) (s4 : ByteArray) (s5 : ByteArray) (s6 : ByteArray) (s7 : ByteArray) (s8 : ByteArray), litRow 9 1 8 [.string ByteArray.empty] [(0, (.string s1)), (1, (.string s2)), (2, (.string s3)), (3, (.string s4)), (4, (.string s5)), (5, (.string s6)), (6, (.string s7)), (7, (.string s8))] = some (mkRow 9 8 [.string s1, .string s2, .string s3, .string s4, .string s5, .string s6, .string s7, .string s8]) from by intros; kernel_rfl) <|
  And.intro (L_convInt (C := kon) (s := 5) (t := 3) (k := .i64) (by kernel_rfl) (by kernel_rfl)) <|
  And.intro (show ∀ (n : Int), prunS kon.P (convert 5 3 (.int .u8 n)) = some (.int .i64 (IntKind.i64.wrap n)) from by intros; kernel_rfl) <|
  And.intro (L_indexAddr (C := kon) (t := 35) (e := 5) (n := 1) (by kernel_rfl) (by kernel_rfl)) <|
  And.intro (L_store (C := kon) (t := 5) (n := 1) (by kernel_rfl)) <|
  And.intro (L_bin (C := kon) (t := 5) (by kernel_rfl)) <|
  And.intro (L_convBytes (C := kon) (s := 35) (t := 9) (e := 5) (by kernel_rfl)) <|
  And.intro (L_cmp (C := kon) (t := 40) (by kernel_rfl) (op := .eql) rfl) <|
  And.intro (L_cmpE (C := kon) (t := 40) (by kernel_rfl)) <|
  And.intro (show ∀ (x y : Operand) (h : Hp) (p i : Nat), cmpV kon.P .eql 40 x y h (.pointer (some ⟨p, i, none⟩)) (.pointer (none)) = some (.bool false) from by intros; kernel_rfl) <|
  And.intro (show ∀ (x y : Operand) (h : Hp) (p i : Nat), cmpV kon.P .eql 40 x y h (.pointer (none)) (.pointer (some ⟨p, i, none⟩)) = some (.bool false) from by intros; kernel_rfl) <|
  And.intro (show ∀ (x y : Operand) (h : Hp), cmpV kon.P .eql 40 x y h (.pointer (none)) (.pointer (none)) = some (.bool true) from by intros; kernel_rfl) <|
  And.intro (L_len (C := kon) (t := 37) (by kernel_rfl)) <|
  And.intro (L_lenSl (C := kon) (t := 37) (e := 64) (by kernel_rfl)) <|
  And.intro (L_cmp (C := kon) (t := 40) (by kernel_rfl) (op := .neq) rfl) <|
  And.intro (L_cmpN (C := kon) (t := 40) (by kernel_rfl)) <|
  And.intro (show ∀ (x y : Operand) (h : Hp) (p i : Nat), cmpV kon.P .neq 40 x y h (.pointer (some ⟨p, i, none⟩)) (.pointer (none)) = some (.bool true) from by intros; kernel_rfl) <|
  And.intro (show ∀ (x y : Operand) (h : Hp) (p i : Nat), cmpV kon.P .neq 40 x y h (.pointer (none)) (.pointer (some ⟨p, i, none⟩)) = some (.bool true) from by intros; kernel_rfl) <|
  And.intro (show ∀ (x y : Operand) (h : Hp), cmpV kon.P .neq 40 x y h (.pointer (none)) (.pointer (none)) = some (.bool false) from by intros; kernel_rfl) <|
  And.intro (L_convInt (C := kon) (s := 3) (t := 5) (k := .u8) (by kernel_rfl) (by kernel_rfl)) <|
  And.intro (show ∀ (n : Int), prunS kon.P (convert 3 5 (.int .i64 n)) = some (.int .u8 (IntKind.u8.wrap n)) from by intros; kernel_rfl) <|
  And.intro (L_buildSlice (C := kon) (t := 35) (e := 5) (n := 1) (z := (.int .u8 0)) (zs := [.int .u8 0]) (len := 1) (by kernel_rfl) (by kernel_rfl) (by kernel_rfl) (by kernel_rfl) (by kernel_rfl) (by kernel_rfl)) <|
  And.intro (show ∀ (n1 : Int), litRow 5 1 1 [.int .u8 0] [(0, (.int .u8 n1))] = some (mkRow 5 1 [.int .u8 n1]) from by intros; kernel_rfl) <|
  (show ∀ (n1 : Int) (n2 : Int), evBuild kon.P 45 [(0, (.int .i64 n1)), (1, (.int .i64 n2))] = some (.agg #[.int .i64 n1, .int .i64 n2, .int .i64 0, .string ByteArray.empty, .bool false, .slice none 0 0, .int .i64 0, .int .i64 0, .int .i64 0, .int .i64 0]) from by intros; kernel_rfl)
theorem typ2 : type_of% (
  And.intro (L_loadA (C := kon) (t := 39) (n := 4) (by kernel_rfl) (by kernel_rfl)) <|
  And.intro (L_alloc (C := kon) (t := 45) (z := (.agg #[.int .i64 0, .int .i64 0, .int .i64 0, .string ByteArray.empty, .bool false, .slice none 0 0, .int .i64 0, .int .i64 0, .int .i64 0, .int .i64 0])) (cs := [.int .i64 0, .int .i64 0, .int .i64 0, .string ByteArray.empty, .bool false, .slice none 0 0, .int .i64 0, .int .i64 0, .int .i64 0, .int .i64 0]) (by kernel_rfl) (by kernel_rfl) (by kernel_rfl)) <|
  And.intro (L_store (C := kon) (t := 45) (n := 10) (by kernel_rfl)) <|
  And.intro (show ∀ (b o : Nat), evFieldAddr kon.P 45 (.pointer (some ⟨b, o, none⟩)) 1 = some (.pointer (some ⟨b, o + 1, none⟩)) from by intros; kernel_rfl) <|
  And.intro (L_loadC (C := kon) (t := 3) (by kernel_rfl)) <|
  And.intro (show ∀ (b o : Nat), evFieldAddr kon.P 45 (.pointer (some ⟨b, o, none⟩)) 6 = some (.pointer (some ⟨b, o + 6, none⟩)) from by intros; kernel_rfl) <|
  And.intro (L_bin (C := kon) (t := 39) (by kernel_rfl)) <|
  And.intro (show ∀ (b o : Nat), evFieldAddr kon.P 45 (.pointer (some ⟨b, o, none⟩)) 5 = some (.pointer (some ⟨b, o + 5, none⟩)) from by intros; kernel_rfl) <|
  And.intro (L_loadC (C := kon) (t := 37) (by kernel_rfl)) <|
  And.intro (show evBuild kon.P 39 [] = some (.agg #[.int .i64 0, .int .i64 0, .int .i64 0, .int .i64 0]) from by intros; kernel_rfl) <|
  And.intro (show ∀ (n1 : Int) (s2 : ByteArray), evBuild kon.P 45 [(0, (.int .i64 n1)), (3, (.string s2))] = some (.agg #[.int .i64 n1, .int .i64 0, .int .i64 0, .string s2, .bool false, .slice none 0 0, .int .i64 0, .int .i64 0, .int .i64 0, .int .i64 0]) from by intros; kernel_rfl) <|
  And.intro (show ∀ (b o : Nat), evFieldAddr kon.P 45 (.pointer (some ⟨b, o, none⟩)) 0 = some (.pointer (some ⟨b, o + 0, none⟩)) from by intros; kernel_rfl) <|
  And.intro (show ∀ (n1 : Int), evBuild kon.P 45 [(0, (.int .i64 n1))] = some (.agg #[.int .i64 n1, .int .i64 0, .int .i64 0, .string ByteArray.empty, .bool false, .slice none 0 0, .int .i64 0, .int .i64 0, .int .i64 0, .int .i64 0]) from by intros; kernel_rfl) <|
  And.intro (show ∀ (b o : Nat), evFieldAddr kon.P 45 (.pointer (some ⟨b, o, none⟩)) 2 = some (.pointer (some ⟨b, o + 2, none⟩)) from by intros; kernel_rfl) <|
  And.intro (show ∀ (b1 : Bool) (b2 : Bool) (b3 : Bool), evBuild kon.P 62 [(0, (.bool b1)), (1, (.bool b2)), (2, (.bool b3))] = some (.agg #[.bool b1, .bool b2, .bool b3]) from by intros; kernel_rfl) <|
  And.intro (L_alloc (C := kon) (t := 62) (z := (.agg #[.bool false, .bool false, .bool false])) (cs := [.bool false, .bool false, .bool false]) (by kernel_rfl) (by kernel_rfl) (by kernel_rfl)) <|
  And.intro (L_store (C := kon) (t := 62) (n := 3) (by kernel_rfl)) <|
  And.intro (L_loadA (C := kon) (t := 62) (n := 3) (by kernel_rfl) (by kernel_rfl)) <|
  And.intro (show ∀ (s1 : ByteArray) (b2 : Bool) (b3 : Bool) (b4 : Bool), evBuild kon.P 64 [(0, (.string s1)), (1, (.agg #[.bool b2, .bool b3, .bool b4]))] = some (.agg #[.string s1, .bool b2, .bool b3, .bool b4]) from by intros; kernel_rfl) <|
  And.intro (L_buildSlice (C := kon) (t := 37) (e := 64) (n := 4) (z := (.agg #[.string ByteArray.empty, .bool false, .bool false, .bool false])) (zs := [.string ByteArray.empty, .bool false, .bool false, .bool false]) (len := 1) (by kernel_rfl) (by kernel_rfl) (by kernel_rfl) (by kernel_rfl) (by kernel_rfl) (by kernel_rfl)) <|
  And.intro (show ∀ (s1 : ByteArray) (b2 : Bool) (b3 : Bool) (b4 : Bool), litRow 64 4 1 [.string ByteArray.empty, .bool false, .bool false, .bool false] [(0, (.agg #[.string s1, .bool b2, .bool b3, .bool b4]))] = some (mkRow 64 1 [.string s1, .bool b2, .bool b3, .bool b4]) from by intros; kernel_rfl) <|
  And.intro (show ∀ (n1 : Int) (n2 : Int) (n3 : Int) (n4 : Int), evBuild kon.P 39 [(0, (.int .i64 n1)), (1, (.int .i64 n2)), (2, (.int .i64 n3)), (3, (.int .i64 n4))] = some (.agg #[.int .i64 n1, .int .i64 n2, .int .i64 n3, .int .i64 n4]) from by intros; kernel_rfl) <|
  And.intro (show ∀ (n1 : Int) (n2 : Int) (a3 : Option Addr) (k4 : Nat) (k5 : Nat) (n6 : Int) (n7 : Int) (n8 : Int) (n9 : Int), evBuild kon.P 45 [(0, (.int .i64 n1)), (1, (.int .i64 n2)), (5, (.slice a3 k4 k5)), (6, (.agg #[.int .i64 n6, .int .i64 n7, .int .i64 n8, .int .i64 n9]))] = some (.agg #[.int .i64 n1, .int .i64 n2, .int .i64 0, .string ByteArray.empty, .bool false, .slice a3 k4 k5, .int .i64 n6, .int .i64 n7, .int .i64 n8, .int .i64 n9]) from by intros; kernel_rfl) <|
  And.intro (show ∀ (n1 : Int) (n2 : Int) (n3 : Int), evBuild kon.P 39 [(0, (.int .i64 n1)), (1, (.int .i64 n2)), (2, (.int .i64 n3))] = some (.agg #[.int .i64 n1, .int .i64 n2, .int .i64 n3, .int .i64 0]) from by intros; kernel_rfl) <|
  And.intro (show ∀ (n1 : Int) (n2 : Int) (b3 : Bool) (a4 : Option Addr) (k5 : Nat) (k6 : Nat) (n7 : Int) (n8 : Int) (n9 : Int) (n10 : Int), evBuild kon.P 45 [(0, (.int .i64 n1)), (1, (.int .i64 n2)), (4, (.bool b3)), (5, (.slice a4 k5 k6)), (6, (.agg #[.int .i64 n7, .int .i64 n8, .int .i64 n9, .int .i64 n10]))] = some (.agg #[.int .i64 n1, .int .i64 n2, .int .i64 0, .string ByteArray.empty, .bool b3, .slice a4 k5 k6, .int .i64 n7, .int .i64 n8, .int .i64 n9, .int .i64 n10]) from by intros; kernel_rfl) <|
  And.intro (show ∀ (n1 : Int) (n2 : Int) (n3 : Int) (n4 : Int) (n5 : Int), evBuild kon.P 66 [(1, (.int .i64 n1)), (2, (.int .i64 n2)), (4, (.int .i64 n3)), (5, (.int .i64 n4)), (6, (.int .i64 n5))] = some (.agg #[.int .i64 0, .int .i64 n1, .int .i64 n2, .int .i64 0, .int .i64 n3, .int .i64 n4, .int .i64 n5]) from by intros; kernel_rfl) <|
  And.intro (show ∀ (n1 : Int) (n2 : Int) (n3 : Int) (n4 : Int) (n5 : Int) (n6 : Int), evBuild kon.P 66 [(1, (.int .i64 n1)), (2, (.int .i64 n2)), (3, (.int .i64 n3)), (4, (.int .i64 n4)), (5, (.int .i64 n5)), (6, (.int .i64 n6))] = some (.agg #[.int .i64 0, .int .i64 n1, .int .i64 n2, .int .i64 n3, .int .i64 n4, .int .i64 n5, .int .i64 n6]) from by intros; kernel_rfl) <|
  And.intro (L_buildSlice (C := kon) (t := 67) (e := 66) (n := 7) (z := (.agg #[.int .i64 0, .int .i64 0, .int .i64 0, .int .i64 0, .int .i64 0, .int .i64 0, .int .i64 0])) (zs := [.int .i64 0, .int .i64 0, .int .i64 0, .int .i64 0, .int .i64 0, .int .i64 0, .int .i64 0]) (len := 6) (by kernel_rfl) (by kernel_rfl) (by kernel_rfl) (by kernel_rfl) (by kernel_rfl) (by kernel_rfl)) <|
  And.intro (show ∀ (n1 : Int) (n2 : Int) (n3 : Int) (n4 : Int) (n5 : Int) (n6 : Int) (n7 : Int) (n8 : Int) (n9 : Int) (n10 : Int) (n11 : Int) (n12 : Int) (n13 : Int) (n14 : Int) (n15 : Int) (n16 : Int) (n17 : Int) (n18 : Int) (n19 : Int) (n20 : Int) (n21 : Int) (n22 : Int) (n23 : Int) (n24 : Int) (n25 : Int) (n26 : Int) (n27 : Int) (n28 : Int) (n29 : Int) (n30 : Int) (n31 : Int) (n32 : Int) (n33 : Int) (n34 : Int) (n35 : Int) (n36 : Int) (n37 : Int) (n38 : Int) (n39 : Int) (n40 : Int) (n41 : Int) (n42 : Int), litRow 66 7 6 [.int .i64 0, .int .i64 0, .int .i64 0, .int .i64 0, .int .i64 0, .int .i64 0, .int .i64 0] [(0, (.agg #[.int .i64 n1, .int .i64 n2, .int .i64 n3, .int .i64 n4, .int .i64 n5, .int .i64 n6, .int .i64 n7])), (1, (.agg #[.int .i64 n8, .int .i64 n9, .int .i64 n10, .int .i64 n11, .int .i64 n12, .int .i64 n13, .int .i64 n14])), (2, (.agg #[.int .i64 n15, .int .i64 n16, .int .i64 n17, .int .i64 n18, .int .i64 n19, .int .i64 n20, .int .i64 n21])), (3, (.agg #[.int .i64 n22, .int .i64 n23, .int .i64 n24, .int .i64 n25, .int .i64 n26, .int .i64 n27, .int .i64 n28])), (4, (.agg #[.int .i64 n29, .int .i64 n30, .int .i64 n31, .int .i64 n32, .int .i64 n33, .int .i64 n34, .int .i64 n35])), (5, (.agg #[.int .i64 n36, .int .i64 n37, .int .i64 n38, .int .i64 n39, .int .i64 n40, .int .i64 n41, .int .i64 n42]))] = some (mkRow 66 6 [.int .i64 n1, .int .i64 n2, .int .i64 n3, .int .i64 n4, .int .i64 n5, .int .i64 n6, .int .i64 n7, .int .i64 n8, .int .i64 n9, .int .i64 n10, .int .i64 n11, .int .i64 n12, .int .i64 n13, .int .i64 n14, .int .i64 n15, .int .i64 n16, .int .i64 n17, .int .i64 n18, .int .i64 n19, .int .i64 n20, .int .i64 n21, .int .i64 n22, .int .i64 n23, .int .i64 n24, .int .i64 n25, .int .i64 n26, .int .i64 n27, .int .i64 n28, .int .i64 n29, .int .i64 n30, .int .i64 n31, .int .i64 n32, .int .i64 n33, .int .i64 n34, .int .i64 n35, .int .i64 n36, .int .i64 n37, .int .i64 n38, .int .i64 n39, .int .i64 n40, .int .i64 n41, .int .i64 n42]) from by intros; kernel_rfl) <|
  And.intro (show evBuild kon.P 66 [] = some (.agg #[.int .i64 0, .int .i64 0, .int .i64 0, .int .i64 0, .int .i64 0, .int .i64 0, .int .i64 0]) from by intros; kernel_rfl) <|
  And.intro (show ∀ (n1 : Int) (n2 : Int) (n3 : Int) (n4 : Int), evBuild kon.P 66 [(1, (.int .i64 n1)), (2, (.int .i64 n2)), (0, (.int .i64 n3)), (4, (.int .i64 n4))] = some (.agg #[.int .i64 n3, .int .i64 n1, .int .i64 n2, .int .i64 0, .int .i64 n4, .int .i64 0, .int .i64 0]) from by intros; kernel_rfl) <|
  And.intro (show ∀ (n1 : Int) (n2 : Int) (n3 : Int), evBuild kon.P 66 [(1, (.int .i64 n1)), (2, (.int .i64 n2)), (4, (.int .i64 n3))] = some (.agg #[.int .i64 0, .int .i64 n1, .int .i64 n2, .int .i64 0, .int .i64 n3, .int .i64 0, .int .i64 0]) from by intros; kernel_rfl) <|
  And.intro (show ∀ (n1 : Int) (n2 : Int), evBuild kon.P 66 [(1, (.int .i64 n1)), (2, (.int .i64 n2))] = some (.agg #[.int .i64 0, .int .i64 n1, .int .i64 n2, .int .i64 0, .int .i64 0, .int .i64 0, .int .i64 0]) from by intros; kernel_rfl) <|
  And.intro (L_buildSlice (C := kon) (t := 67) (e := 66) (n := 7) (z := (.agg #[.int .i64 0, .int .i64 0, .int .i64 0, .int .i64 0, .int .i64 0, .int .i64 0, .int .i64 0])) (zs := [.int .i64 0, .int .i64 0, .int .i64 0, .int .i64 0, .int .i64 0, .int .i64 0, .int .i64 0]) (len := 12) (by kernel_rfl) (by kernel_rfl) (by kernel_rfl) (by kernel_rfl) (by kernel_rfl) (by kernel_rfl)) <|
  And.intro (L_buildSlice (C := kon) (t := 23) (e := 9) (n := 1) (z := (.string ByteArray.empty)) (zs := [.string ByteArray.empty]) (len := 1) (by kernel_rfl) (by kernel_rfl) (by kernel_rfl) (by kernel_rfl) (by kernel_rfl) (by kernel_rfl)) <|
  And.intro (show ∀ (s1 : ByteArray), litRow 9 1 1 [.string ByteArray.empty] [(0, (.string s1))] = some (mkRow 9 1 [.string s1]) from by intros; kernel_rfl) <|
  And.intro (L_len (C := kon) (t := 67) (by kernel_rfl)) <|
  And.intro (L_lenSl (C := kon) (t := 67) (e := 66) (by kernel_rfl)) <|
  And.intro (L_buildSlice (C := kon) (t := 67) (e := 66) (n := 7) (z := (.agg #[.int .i64 0, .int .i64 0, .int .i64 0, .int .i64 0, .int .i64 0, .int .i64 0, .int .i64 0])) (zs := [.int .i64 0, .int .i64 0, .int .i64 0, .int .i64 0, .int .i64 0, .int .i64 0, .int .i64 0]) (len := 0) (by kernel_rfl) (by kernel_rfl) (by kernel_rfl) (by kernel_rfl) (by kernel_rfl) (by kernel_rfl)) <|
  (show litRow 66 7 0 [.int .i64 0, .int .i64 0, .int .i64 0, .int .i64 0, .int .i64 0, .int .i64 0, .int .i64 0] [] = some (mkRow 66 0 []) from by intros; kernel_rfl)) :=
  And.intro (L_loadA (C := kon) (t := 39) (n := 4) (by kernel_rfl) (by kernel_rfl)) <|
  And.intro (L_alloc (C := kon) (t := 45) (z := (.agg #[.int .i64 0, .int .i64 0, .int .i64 0, .string ByteArray.empty, .bool false, .slice none 0 0, .int .i64 0, .int .i64 0, .int .i64 0, .int .i64 0])) (cs := [.int .i64 0, .int .i64 0, .int .i64 0, .string ByteArray.empty, .bool false, .slice none 0 0, .int .i64 0, .int .i64 0, .int .i64 0, .int .i64 0]) (by kernel_rfl) (by kernel_rfl) (by kernel_rfl)) <|
  And.intro (L_store (C := kon) (t := 45) (n := 10) (by kernel_rfl)) <|
  And.intro (show ∀ (b o : Nat), evFieldAddr kon.P 45 (.pointer (some ⟨b, o, none⟩)) 1 = some (.pointer (some ⟨b, o + 1, none⟩)) from by intros; kernel_rfl) <|
  And.intro (L_loadC (C := kon) (t := 3) (by kernel_rfl)) <|
  And.intro (show ∀ (b o : Nat), evFieldAddr kon.P 45 (.pointer (some ⟨b, o, none⟩)) 6 = some (.pointer (some ⟨b, o + 6, none⟩)) from by intros; kernel_rfl) <|
  And.intro (L_bin (C := kon) (t := 39) (by kernel_rfl)) <|
  And.intro (show ∀ (b o : Nat), evFieldAddr kon.P 45 (.pointer (some ⟨b, o, none⟩)) 5 = some (.pointer (some ⟨b, o + 5, none⟩)) from by intros; kernel_rfl) <|
  And.intro (L_loadC (C := kon) (t := 37) (by kernel_rfl)) <|
  And.intro (show evBuild kon.P 39 [] = some (.agg #[.int .i64 0, .int .i64 0, .int .i64 0, .int .i64 0]) from by intros; kernel_rfl) <|
  And.intro (show ∀ (n1 : Int) (s2 : ByteArray), evBuild kon.P 45 [(0, (.int .i64 n1)), (3, (.string s2))] = some (.agg #[.int .i64 n1, .int .i64 0, .int .i64 0, .string s2, .bool false, .slice none 0 0, .int .i64 0, .int .i64 0, .int .i64 0, .int .i64 0]) from by intros; kernel_rfl) <|
  And.intro (show ∀ (b o : Nat), evFieldAddr kon.P 45 (.pointer (some ⟨b, o, none⟩)) 0 = some (.pointer (some ⟨b, o + 0, none⟩)) from by intros; kernel_rfl) <|
  And.intro (show ∀ (n1 : Int), evBuild kon.P 45 [(0, (.int .i64 n1))] = some (.agg #[.int .i64 n1, .int .i64 0, .int .i64 0, .string ByteArray.empty, .bool false, .slice none 0 0, .int .i64 0, .int .i64 0, .int .i64 0, .int .i64 0]) from by intros; kernel_rfl) <|
  And.intro (show ∀ (b o : Nat), evFieldAddr kon.P 45 (.pointer (some ⟨b, o, none⟩)) 2 = some (.pointer (some ⟨b, o + 2, none⟩)) from by intros; kernel_rfl) <|
  And.intro (show ∀ (b1 : Bool) (b2 : Bool) (b3 : Bool), evBuild kon.P 62 [(0, (.bool b1)), (1, (.bool b2)), (2, (.bool b3))] = some (.agg #[.bool b1, .bool b2, .bool b3]) from by intros; kernel_rfl) <|
  And.intro (L_alloc (C := kon) (t := 62) (z := (.agg #[.bool false, .bool false, .bool false])) (cs := [.bool false, .bool false, .bool false]) (by kernel_rfl) (by kernel_rfl) (by kernel_rfl)) <|
  And.intro (L_store (C := kon) (t := 62) (n := 3) (by kernel_rfl)) <|
  And.intro (L_loadA (C := kon) (t := 62) (n := 3) (by kernel_rfl) (by kernel_rfl)) <|
  And.intro (show ∀ (s1 : ByteArray) (b2 : Bool) (b3 : Bool) (b4 : Bool), evBuild kon.P 64 [(0, (.string s1)), (1, (.agg #[.bool b2, .bool b3, .bool b4]))] = some (.agg #[.string s1, .bool b2, .bool b3, .bool b4]) from by intros; kernel_rfl) <|
  And.intro (L_buildSlice (C := kon) (t := 37) (e := 64) (n := 4) (z := (.agg #[.string ByteArray.empty, .bool false, .bool false, .bool false])) (zs := [.string ByteArray.empty, .bool false, .bool false, .bool false]) (len := 1) (by kernel_rfl) (by kernel_rfl) (by kernel_rfl) (by kernel_rfl) (by kernel_rfl) (by kernel_rfl)) <|
  And.intro (show ∀ (s1 : ByteArray) (b2 : Bool) (b3 : Bool) (b4 : Bool), litRow 64 4 1 [.string ByteArray.empty, .bool false, .bool false, .bool false] [(0, (.agg #[.string s1, .bool b2, .bool b3, .bool b4]))] = some (mkRow 64 1 [.string s1, .bool b2, .bool b3, .bool b4]) from by intros; kernel_rfl) <|
  And.intro (show ∀ (n1 : Int) (n2 : Int) (n3 : Int) (n4 : Int), evBuild kon.P 39 [(0, (.int .i64 n1)), (1, (.int .i64 n2)), (2, (.int .i64 n3)), (3, (.int .i64 n4))] = some (.agg #[.int .i64 n1, .int .i64 n2, .int .i64 n3, .int .i64 n4]) from by intros; kernel_rfl) <|
  And.intro (show ∀ (n1 : Int) (n2 : Int) (a3 : Option Addr) (k4 : Nat) (k5 : Nat) (n6 : Int) (n7 : Int) (n8 : Int) (n9 : Int), evBuild kon.P 45 [(0, (.int .i64 n1)), (1, (.int .i64 n2)), (5, (.slice a3 k4 k5)), (6, (.agg #[.int .i64 n6, .int .i64 n7, .int .i64 n8, .int .i64 n9]))] = some (.agg #[.int .i64 n1, .int .i64 n2, .int .i64 0, .string ByteArray.empty, .bool false, .slice a3 k4 k5, .int .i64 n6, .int .i64 n7, .int .i64 n8, .int .i64 n9]) from by intros; kernel_rfl) <|
  And.intro (show ∀ (n1 : Int) (n2 : Int) (n3 : Int), evBuild kon.P 39 [(0, (.int .i64 n1)), (1, (.int .i64 n2)), (2, (.int .i64 n3))] = some (.agg #[.int .i64 n1, .int .i64 n2, .int .i64 n3, .int .i64 0]) from by intros; kernel_rfl) <|
  And.intro (show ∀ (n1 : Int) (n2 : Int) (b3 : Bool) (a4 : Option Addr) (k5 : Nat) (k6 : Nat) (n7 : Int) (n8 : Int) (n9 : Int) (n10 : Int), evBuild kon.P 45 [(0, (.int .i64 n1)), (1, (.int .i64 n2)), (4, (.bool b3)), (5, (.slice a4 k5 k6)), (6, (.agg #[.int .i64 n7, .int .i64 n8, .int .i64 n9, .int .i64 n10]))] = some (.agg #[.int .i64 n1, .int .i64 n2, .int .i64 0, .string ByteArray.empty, .bool b3, .slice a4 k5 k6, .int .i64 n7, .int .i64 n8, .int .i64 n9, .int .i64 n10]) from by intros; kernel_rfl) <|
  And.intro (show ∀ (n1 : Int) (n2 : Int) (n3 : Int) (n4 : Int) (n5 : Int), evBuild kon.P 66 [(1, (.int .i64 n1)), (2, (.int .i64 n2)), (4, (.int .i64 n3)), (5, (.int .i64 n4)), (6, (.int .i64 n5))] = some (.agg #[.int .i64 0, .int .i64 n1, .int .i64 n2, .int .i64 0, .int .i64 n3, .int .i64 n4, .int .i64 n5]) from by intros; kernel_rfl) <|
  And.intro (show ∀ (n1 : Int) (n2 : Int) (n3 : Int) (n4 : Int) (n5 : Int) (n6 : Int), evBuild kon.P 66 [(1, (.int .i64 n1)), (2, (.int .i64 n2)), (3, (.int .i64 n3)), (4, (.int .i64 n4)), (5, (.int .i64 n5)), (6, (.int .i64 n6))] = some (.agg #[.int .i64 0, .int .i64 n1, .int .i64 n2, .int .i64 n3, .int .i64 n4, .int .i64 n5, .int .i64 n6]) from by intros; kernel_rfl) <|
  And.intro (L_buildSlice (C := kon) (t := 67) (e := 66) (n := 7) (z := (.agg #[.int .i64 0, .int .i64 0, .int .i64 0, .int .i64 0, .int .i64 0, .int .i64 0, .int .i64 0])) (zs := [.int .i64 0, .int .i64 0, .int .i64 0, .int .i64 0, .int .i64 0, .int .i64 0, .int .i64 0]) (len := 6) (by kernel_rfl) (by kernel_rfl) (by kernel_rfl) (by kernel_rfl) (by kernel_rfl) (by kernel_rfl)) <|
  And.intro (show ∀ (n1 : Int) (n2 : Int) (n3 : Int) (n4 : Int) (n5 : Int) (n6 : Int) (n7 : Int) (n8 : Int) (n9 : Int) (n10 : Int) (n11 : Int) (n12 : Int) (n13 : Int) (n14 : Int) (n15 : Int) (n16 : Int) (n17 : Int) (n18 : Int) (n19 : Int) (n20 : Int) (n21 : Int) (n22 : Int) (n23 : Int) (n24 : Int) (n25 : Int) (n26 : Int) (n27 : Int) (n28 : Int) (n29 : Int) (n30 : Int) (n31 : Int) (n32 : Int) (n33 : Int) (n34 : Int) (n35 : Int) (n36 : Int) (n37 : Int) (n38 : Int) (n39 : Int) (n40 : Int) (n41 : Int) (n42 : Int), litRow 66 7 6 [.int .i64 0, .int .i64 0, .int .i64 0, .int .i64 0, .int .i64 0, .int .i64 0, .int .i64 0] [(0, (.agg #[.int .i64 n1, .int .i64 n2, .int .i64 n3, .int .i64 n4, .int .i64 n5, .int .i64 n6, .int .i64 n7])), (1, (.agg #[.int .i64 n8, .int .i64 n9, .int .i64 n10, .int .i64 n11, .int .i64 n12, .int .i64 n13, .int .i64 n14])), (2, (.agg #[.int .i64 n15, .int .i64 n16, .int .i64 n17, .int .i64 n18, .int .i64 n19, .int .i64 n20, .int .i64 n21])), (3, (.agg #[.int .i64 n22, .int .i64 n23, .int .i64 n24, .int .i64 n25, .int .i64 n26, .int .i64 n27, .int .i64 n28])), (4, (.agg #[.int .i64 n29, .int .i64 n30, .int .i64 n31, .int .i64 n32, .int .i64 n33, .int .i64 n34, .int .i64 n35])), (5, (.agg #[.int .i64 n36, .int .i64 n37, .int .i64 n38, .int .i64 n39, .int .i64 n40, .int .i64 n41, .int .i64 n42]))] = some (mkRow 66 6 [.int .i64 n1, .int .i64 n2, .int .i64 n3, .int .i64 n4, .int .i64 n5, .int .i64 n6, .int .i64 n7, .int .i64 n8, .int .i64 n9, .int .i64 n10, .int .i64 n11, .int .i64 n12, .int .i64 n13, .int .i64 n14, .int .i64 n15, .int .i64 n16, .int .i64 n17, .int .i64 n18, .int .i64 n19, .int .i64 n20, .int .i64 n21, .int .i64 n22, .int .i64 n23, .int .i64 n24, .int .i64 n25, .int .i64 n26, .int .i64 n27, .int .i64 n28, .int .i64 n29, .int .i64 n30, .int .i64 n31, .int .i64 n32, .int .i64 n33, .int .i64 n34, .int .i64 n35, .int .i64 n36, .int .i64 n37, .int .i64 n38, .int .i64 n39, .int .i64 n40, .int .i64 n41, .int .i64 n42]) from by intros; kernel_rfl) <|
  And.intro (show evBuild kon.P 66 [] = some (.agg #[.int .i64 0, .int .i64 0, .int .i64 0, .int .i64 0, .int .i64 0, .int .i64 0, .int .i64 0]) from by intros; kernel_rfl) <|
  And.intro (show ∀ (n1 : Int) (n2 : Int) (n3 : Int) (n4 : Int), evBuild kon.P 66 [(1, (.int .i64 n1)), (2, (.int .i64 n2)), (0, (.int .i64 n3)), (4, (.int .i64 n4))] = some (.agg #[.int .i64 n3, .int .i64 n1, .int .i64 n2, .int .i64 0, .int .i64 n4, .int .i64 0, .int .i64 0]) from by intros; kernel_rfl) <|
  And.intro (show ∀ (n1 : Int) (n2 : Int) (n3 : Int), evBuild kon.P 66 [(1, (.int .i64 n1)), (2, (.int .i64 n2)), (4, (.int .i64 n3))] = some (.agg #[.int .i64 0, .int .i64 n1, .int .i64 n2, .int .i64 0, .int .i64 n3, .int .i64 0, .int .i64 0]) from by intros; kernel_rfl) <|
  And.intro (show ∀ (n1 : Int) (n2 : Int), evBuild kon.P 66 [(1, (.int .i64 n1)), (2, (.int .i64 n2))] = some (.agg #[.int .i64 0, .int .i64 n1, .int .i64 n2, .int .i64 0, .int .i64 0, .int .i64 0, .int .i64 0]) from by intros; kernel_rfl) <|
  And.intro (L_buildSlice (C := kon) (t := 67) (e := 66) (n := 7) (z := (.agg #[.int .i64 0, .int .i64 0, .int .i64 0, .int .i64 0, .int .i64 0, .int .i64 0, .int .i64 0])) (zs := [.int .i64 0, .int .i64 0, .int .i64 0, .int .i64 0, .int .i64 0, .int .i64 0, .int .i64 0]) (len := 12) (by kernel_rfl) (by kernel_rfl) (by kernel_rfl) (by kernel_rfl) (by kernel_rfl) (by kernel_rfl)) <|
  And.intro (L_buildSlice (C := kon) (t := 23) (e := 9) (n := 1) (z := (.string ByteArray.empty)) (zs := [.string ByteArray.empty]) (len := 1) (by kernel_rfl) (by kernel_rfl) (by kernel_rfl) (by kernel_rfl) (by kernel_rfl) (by kernel_rfl)) <|
  And.intro (show ∀ (s1 : ByteArray), litRow 9 1 1 [.string ByteArray.empty] [(0, (.string s1))] = some (mkRow 9 1 [.string s1]) from by intros; kernel_rfl) <|
  And.intro (L_len (C := kon) (t := 67) (by kernel_rfl)) <|
  And.intro (L_lenSl (C := kon) (t := 67) (e := 66) (by kernel_rfl)) <|
  And.intro (L_buildSlice (C := kon) (t := 67) (e := 66) (n := 7) (z := (.agg #[.int .i64 0, .int .i64 0, .int .i64 0, .int .i64 0, .int .i64 0, .int .i64 0, .int .i64 0])) (zs := [.int .i64 0, .int .i64 0, .int .i64 0, .int .i64 0, .int .i64 0, .int .i64 0, .int .i64 0]) (len := 0) (by kernel_rfl) (by kernel_rfl) (by kernel_rfl) (by kernel_rfl) (by kernel_rfl) (by kernel_rfl)) <|
  (show litRow 66 7 0 [.int .i64 0, .int .i64 0, .int .i64 0, .int .i64 0, .int .i64 0, .int .i64 0, .int .i64 0] [] = some (mkRow 66 0 []) from by intros; kernel_rfl)
theorem typ3 : type_of% (
  And.intro (L_append (C := kon) (t := 67) (u := 67) (e := 66) (by kernel_rfl)) <|
  And.intro (L_indexAddr (C := kon) (t := 67) (e := 66) (n := 7) (by kernel_rfl) (by kernel_rfl)) <|
  And.intro (L_loadA (C := kon) (t := 66) (n := 7) (by kernel_rfl) (by kernel_rfl)) <|
  And.intro (L_buildSlice (C := kon) (t := 67) (e := 66) (n := 7) (z := (.agg #[.int .i64 0, .int .i64 0, .int .i64 0, .int .i64 0, .int .i64 0, .int .i64 0, .int .i64 0])) (zs := [.int .i64 0, .int .i64 0, .int .i64 0, .int .i64 0, .int .i64 0, .int .i64 0, .int .i64 0]) (len := 1) (by kernel_rfl) (by kernel_rfl) (by kernel_rfl) (by kernel_rfl) (by kernel_rfl) (by kernel_rfl)) <|
  And.intro (show ∀ (n1 : Int) (n2 : Int) (n3 : Int) (n4 : Int) (n5 : Int) (n6 : Int) (n7 : Int), litRow 66 7 1 [.int .i64 0, .int .i64 0, .int .i64 0, .int .i64 0, .int .i64 0, .int .i64 0, .int .i64 0] [(0, (.agg #[.int .i64 n1, .int .i64 n2, .int .i64 n3, .int .i64 n4, .int .i64 n5, .int .i64 n6, .int .i64 n7]))] = some (mkRow 66 1 [.int .i64 n1, .int .i64 n2, .int .i64 n3, .int .i64 n4, .int .i64 n5, .int .i64 n6, .int .i64 n7]) from by intros; kernel_rfl) <|
  And.intro (L_len (C := kon) (t := 70) (by kernel_rfl)) <|
  And.intro (L_lenSl (C := kon) (t := 70) (e := 3) (by kernel_rfl)) <|
  And.intro (L_indexAddr (C := kon) (t := 70) (e := 3) (n := 1) (by kernel_rfl) (by kernel_rfl)) <|
  And.intro (show evBuild kon.P 73 [] = some (.agg #[.int .i64 0, .string ByteArray.empty]) from by intros; kernel_rfl) <|
  And.intro (L_buildSlice (C := kon) (t := 74) (e := 73) (n := 2) (z := (.agg #[.int .i64 0, .string ByteArray.empty])) (zs := [.int .i64 0, .string ByteArray.empty]) (len := 1) (by kernel_rfl) (by kernel_rfl) (by kernel_rfl) (by kernel_rfl) (by kernel_rfl) (by kernel_rfl)) <|
  And.intro (show ∀ (n1 : Int) (s2 : ByteArray), litRow 73 2 1 [.int .i64 0, .string ByteArray.empty] [(0, (.agg #[.int .i64 n1, .string s2]))] = some (mkRow 73 1 [.int .i64 n1, .string s2]) from by intros; kernel_rfl) <|
  And.intro (show ∀ (n1 : Int), evBuild kon.P 73 [(0, (.int .i64 n1))] = some (.agg #[.int .i64 n1, .string ByteArray.empty]) from by intros; kernel_rfl) <|
  And.intro (show ∀ (n1 : Int) (s2 : ByteArray), evBuild kon.P 73 [(0, (.int .i64 n1)), (1, (.string s2))] = some (.agg #[.int .i64 n1, .string s2]) from by intros; kernel_rfl) <|
  And.intro (L_buildSlice (C := kon) (t := 75) (e := 74) (n := 1) (z := (.slice none 0 0)) (zs := [.slice none 0 0]) (len := 7) (by kernel_rfl) (by kernel_rfl) (by kernel_rfl) (by kernel_rfl) (by kernel_rfl) (by kernel_rfl)) <|
  And.intro (show ∀ (a1 : Option Addr) (k2 : Nat) (k3 : Nat) (a4 : Option Addr) (k5 : Nat) (k6 : Nat) (a7 : Option Addr) (k8 : Nat) (k9 : Nat) (a10 : Option Addr) (k11 : Nat) (k12 : Nat) (a13 : Option Addr) (k14 : Nat) (k15 : Nat) (a16 : Option Addr) (k17 : Nat) (k18 : Nat) (a19 : Option Addr) (k20 : Nat) (k21 : Nat), litRow 74 1 7 [.slice none 0 0] [(0, (.slice a1 k2 k3)), (1, (.slice a4 k5 k6)), (2, (.slice a7 k8 k9)), (3, (.slice a10 k11 k12)), (4, (.slice a13 k14 k15)), (5, (.slice a16 k17 k18)), (6, (.slice a19 k20 k21))] = some (mkRow 74 7 [.slice a1 k2 k3, .slice a4 k5 k6, .slice a7 k8 k9, .slice a10 k11 k12, .slice a13 k14 k15, .slice a16 k17 k18, .slice a19 k20 k21]) from by intros; kernel_rfl) <|
  And.intro (L_len (C := kon) (t := 75) (by kernel_rfl)) <|
  And.intro (L_lenSl (C := kon) (t := 75) (e := 74) (by kernel_rfl)) <|
  And.intro (L_indexAddr (C := kon) (t := 75) (e := 74) (n := 1) (by kernel_rfl) (by kernel_rfl)) <|
  And.intro (L_loadC (C := kon) (t := 74) (by kernel_rfl)) <|
  And.intro (L_buildSlice (C := kon) (t := 74) (e := 73) (n := 2) (z := (.agg #[.int .i64 0, .string ByteArray.empty])) (zs := [.int .i64 0, .string ByteArray.empty]) (len := 3) (by kernel_rfl) (by kernel_rfl) (by kernel_rfl) (by kernel_rfl) (by kernel_rfl) (by kernel_rfl)) <|
  And.intro (show ∀ (n1 : Int) (s2 : ByteArray) (n3 : Int) (s4 : ByteArray) (n5 : Int) (s6 : ByteArray), litRow 73 2 3 [.int .i64 0, .string ByteArray.empty] [(0, (.agg #[.int .i64 n1, .string s2])), (1, (.agg #[.int .i64 n3, .string s4])), (2, (.agg #[.int .i64 n5, .string s6]))] = some (mkRow 73 3 [.int .i64 n1, .string s2, .int .i64 n3, .string s4, .int .i64 n5, .string s6]) from by intros; kernel_rfl) <|
  And.intro (L_alloc (C := kon) (t := 79) (z := (.agg #[.int .i64 0, .int .i64 0, .int .i64 0])) (cs := [.int .i64 0, .int .i64 0, .int .i64 0]) (by kernel_rfl) (by kernel_rfl) (by kernel_rfl)) <|
  And.intro (L_indexArr (C := kon) (t := 79) (m := 3) (e := 3) (n := 1) (by kernel_rfl) (by kernel_rfl)) <|
  And.intro (L_store (C := kon) (t := 3) (n := 1) (by kernel_rfl)) <|
  And.intro (L_indexArr (C := kon) (t := 78) (m := 3) (e := 4) (n := 1) (by kernel_rfl) (by kernel_rfl)) <|
  And.intro (L_loadC (C := kon) (t := 4) (by kernel_rfl)) <|
  And.intro (L_indexAddr (C := kon) (t := 74) (e := 73) (n := 2) (by kernel_rfl) (by kernel_rfl)) <|
  And.intro (L_loadA (C := kon) (t := 73) (n := 2) (by kernel_rfl) (by kernel_rfl)) <|
  And.intro (L_append (C := kon) (t := 74) (u := 74) (e := 73) (by kernel_rfl)) <|
  And.intro (L_cmp (C := kon) (t := 82) (by kernel_rfl) (op := .eql) rfl) <|
  And.intro (L_cmpE (C := kon) (t := 82) (by kernel_rfl)) <|
  And.intro (show ∀ (x y : Operand) (h : Hp) (p i : Nat), cmpV kon.P .eql 82 x y h (.pointer (some ⟨p, i, none⟩)) (.pointer (none)) = some (.bool false) from by intros; kernel_rfl) <|
  And.intro (show ∀ (x y : Operand) (h : Hp) (p i : Nat), cmpV kon.P .eql 82 x y h (.pointer (none)) (.pointer (some ⟨p, i, none⟩)) = some (.bool false) from by intros; kernel_rfl) <|
  And.intro (show ∀ (x y : Operand) (h : Hp), cmpV kon.P .eql 82 x y h (.pointer (none)) (.pointer (none)) = some (.bool true) from by intros; kernel_rfl) <|
  And.intro (show ∀ (b o : Nat), evFieldAddr kon.P 81 (.pointer (some ⟨b, o, none⟩)) 5 = some (.pointer (some ⟨b, o + 5, none⟩)) from by intros; kernel_rfl) <|
  And.intro (L_cmp (C := kon) (t := 82) (by kernel_rfl) (op := .neq) rfl) <|
  And.intro (L_cmpN (C := kon) (t := 82) (by kernel_rfl)) <|
  And.intro (show ∀ (x y : Operand) (h : Hp) (p i : Nat), cmpV kon.P .neq 82 x y h (.pointer (some ⟨p, i, none⟩)) (.pointer (none)) = some (.bool true) from by intros; kernel_rfl) <|
  And.intro (show ∀ (x y : Operand) (h : Hp) (p i : Nat), cmpV kon.P .neq 82 x y h (.pointer (none)) (.pointer (some ⟨p, i, none⟩)) = some (.bool true) from by intros; kernel_rfl) <|
  (show ∀ (x y : Operand) (h : Hp), cmpV kon.P .neq 82 x y h (.pointer (none)) (.pointer (none)) = some (.bool false) from by intros; kernel_rfl)) :=
  And.intro (L_append (C := kon) (t := 67) (u := 67) (e := 66) (by kernel_rfl)) <|
  And.intro (L_indexAddr (C := kon) (t := 67) (e := 66) (n := 7) (by kernel_rfl) (by kernel_rfl)) <|
  And.intro (L_loadA (C := kon) (t := 66) (n := 7) (by kernel_rfl) (by kernel_rfl)) <|
  And.intro (L_buildSlice (C := kon) (t := 67) (e := 66) (n := 7) (z := (.agg #[.int .i64 0, .int .i64 0, .int .i64 0, .int .i64 0, .int .i64 0, .int .i64 0, .int .i64 0])) (zs := [.int .i64 0, .int .i64 0, .int .i64 0, .int .i64 0, .int .i64 0, .int .i64 0, .int .i64 0]) (len := 1) (by kernel_rfl) (by kernel_rfl) (by kernel_rfl) (by kernel_rfl) (by kernel_rfl) (by kernel_rfl)) <|
  And.intro (show ∀ (n1 : Int) (n2 : Int) (n3 : Int) (n4 : Int) (n5 : Int) (n6 : Int) (n7 : Int), litRow 66 7 1 [.int .i64 0, .int .i64 0, .int .i64 0, .int .i64 0, .int .i64 0, .int .i64 0, .int .i64 0] [(0, (.agg #[.int .i64 n1, .int .i64 n2, .int .i64 n3, .int .i64 n4, .int .i64 n5, .int .i64 n6, .int .i64 n7]))] = some (mkRow 66 1 [.int .i64 n1, .int .i64 n2, .int .i64 n3, .int .i64 n4, .int .i64 n5, .int .i64 n6, .int .i64 n7]) from by intros; kernel_rfl) <|
  And.intro (L_len (C := kon) (t := 70) (by kernel_rfl)) <|
  And.intro (L_lenSl (C := kon) (t := 70) (e := 3) (by kernel_rfl)) <|
  And.intro (L_indexAddr (C := kon) (t := 70) (e := 3) (n := 1) (by kernel_rfl) (by kernel_rfl)) <|
  And.intro (show evBuild kon.P 73 [] = some (.agg #[.int .i64 0, .string ByteArray.empty]) from by intros; kernel_rfl) <|
  And.intro (L_buildSlice (C := kon) (t := 74) (e := 73) (n := 2) (z := (.agg #[.int .i64 0, .string ByteArray.empty])) (zs := [.int .i64 0, .string ByteArray.empty]) (len := 1) (by kernel_rfl) (by kernel_rfl) (by kernel_rfl) (by kernel_rfl) (by kernel_rfl) (by kernel_rfl)) <|
  And.intro (show ∀ (n1 : Int) (s2 : ByteArray), litRow 73 2 1 [.int .i64 0, .string ByteArray.empty] [(0, (.agg #[.int .i64 n1, .string s2]))] = some (mkRow 73 1 [.int .i64 n1, .string s2]) from by intros; kernel_rfl) <|
  And.intro (show ∀ (n1 : Int), evBuild kon.P 73 [(0, (.int .i64 n1))] = some (.agg #[.int .i64 n1, .string ByteArray.empty]) from by intros; kernel_rfl) <|
  And.intro (show ∀ (n1 : Int) (s2 : ByteArray), evBuild kon.P 73 [(0, (.int .i64 n1)), (1, (.string s2))] = some (.agg #[.int .i64 n1, .string s2]) from by intros; kernel_rfl) <|
  And.intro (L_buildSlice (C := kon) (t := 75) (e := 74) (n := 1) (z := (.slice none 0 0)) (zs := [.slice none 0 0]) (len := 7) (by kernel_rfl) (by kernel_rfl) (by kernel_rfl) (by kernel_rfl) (by kernel_rfl) (by kernel_rfl)) <|
  And.intro (show ∀ (a1 : Option Addr) (k2 : Nat) (k3 : Nat) (a4 : Option Addr) (k5 : Nat) (k6 : Nat) (a7 : Option Addr) (k8 : Nat) (k9 : Nat) (a10 : Option Addr) (k11 : Nat) (k12 : Nat) (a13 : Option Addr) (k14 : Nat) (k15 : Nat) (a16 : Option Addr) (k17 : Nat) (k18 : Nat) (a19 : Option Addr) (k20 : Nat) (k21 : Nat), litRow 74 1 7 [.slice none 0 0] [(0, (.slice a1 k2 k3)), (1, (.slice a4 k5 k6)), (2, (.slice a7 k8 k9)), (3, (.slice a10 k11 k12)), (4, (.slice a13 k14 k15)), (5, (.slice a16 k17 k18)), (6, (.slice a19 k20 k21))] = some (mkRow 74 7 [.slice a1 k2 k3, .slice a4 k5 k6, .slice a7 k8 k9, .slice a10 k11 k12, .slice a13 k14 k15, .slice a16 k17 k18, .slice a19 k20 k21]) from by intros; kernel_rfl) <|
  And.intro (L_len (C := kon) (t := 75) (by kernel_rfl)) <|
  And.intro (L_lenSl (C := kon) (t := 75) (e := 74) (by kernel_rfl)) <|
  And.intro (L_indexAddr (C := kon) (t := 75) (e := 74) (n := 1) (by kernel_rfl) (by kernel_rfl)) <|
  And.intro (L_loadC (C := kon) (t := 74) (by kernel_rfl)) <|
  And.intro (L_buildSlice (C := kon) (t := 74) (e := 73) (n := 2) (z := (.agg #[.int .i64 0, .string ByteArray.empty])) (zs := [.int .i64 0, .string ByteArray.empty]) (len := 3) (by kernel_rfl) (by kernel_rfl) (by kernel_rfl) (by kernel_rfl) (by kernel_rfl) (by kernel_rfl)) <|
  And.intro (show ∀ (n1 : Int) (s2 : ByteArray) (n3 : Int) (s4 : ByteArray) (n5 : Int) (s6 : ByteArray), litRow 73 2 3 [.int .i64 0, .string ByteArray.empty] [(0, (.agg #[.int .i64 n1, .string s2])), (1, (.agg #[.int .i64 n3, .string s4])), (2, (.agg #[.int .i64 n5, .string s6]))] = some (mkRow 73 3 [.int .i64 n1, .string s2, .int .i64 n3, .string s4, .int .i64 n5, .string s6]) from by intros; kernel_rfl) <|
  And.intro (L_alloc (C := kon) (t := 79) (z := (.agg #[.int .i64 0, .int .i64 0, .int .i64 0])) (cs := [.int .i64 0, .int .i64 0, .int .i64 0]) (by kernel_rfl) (by kernel_rfl) (by kernel_rfl)) <|
  And.intro (L_indexArr (C := kon) (t := 79) (m := 3) (e := 3) (n := 1) (by kernel_rfl) (by kernel_rfl)) <|
  And.intro (L_store (C := kon) (t := 3) (n := 1) (by kernel_rfl)) <|
  And.intro (L_indexArr (C := kon) (t := 78) (m := 3) (e := 4) (n := 1) (by kernel_rfl) (by kernel_rfl)) <|
  And.intro (L_loadC (C := kon) (t := 4) (by kernel_rfl)) <|
  And.intro (L_indexAddr (C := kon) (t := 74) (e := 73) (n := 2) (by kernel_rfl) (by kernel_rfl)) <|
  And.intro (L_loadA (C := kon) (t := 73) (n := 2) (by kernel_rfl) (by kernel_rfl)) <|
  And.intro (L_append (C := kon) (t := 74) (u := 74) (e := 73) (by kernel_rfl)) <|
  And.intro (L_cmp (C := kon) (t := 82) (by kernel_rfl) (op := .eql) rfl) <|
  And.intro (L_cmpE (C := kon) (t := 82) (by kernel_rfl)) <|
  And.intro (show ∀ (x y : Operand) (h : Hp) (p i : Nat), cmpV kon.P .eql 82 x y h (.pointer (some ⟨p, i, none⟩)) (.pointer (none)) = some (.bool false) from by intros; kernel_rfl) <|
  And.intro (show ∀ (x y : Operand) (h : Hp) (p i : Nat), cmpV kon.P .eql 82 x y h (.pointer (none)) (.pointer (some ⟨p, i, none⟩)) = some (.bool false) from by intros; kernel_rfl) <|
  And.intro (show ∀ (x y : Operand) (h : Hp), cmpV kon.P .eql 82 x y h (.pointer (none)) (.pointer (none)) = some (.bool true) from by intros; kernel_rfl) <|
  And.intro (show ∀ (b o : Nat), evFieldAddr kon.P 81 (.pointer (some ⟨b, o, none⟩)) 5 = some (.pointer (some ⟨b, o + 5, none⟩)) from by intros; kernel_rfl) <|
  And.intro (L_cmp (C := kon) (t := 82) (by kernel_rfl) (op := .neq) rfl) <|
  And.intro (L_cmpN (C := kon) (t := 82) (by kernel_rfl)) <|
  And.intro (show ∀ (x y : Operand) (h : Hp) (p i : Nat), cmpV kon.P .neq 82 x y h (.pointer (some ⟨p, i, none⟩)) (.pointer (none)) = some (.bool true) from by intros; kernel_rfl) <|
  And.intro (show ∀ (x y : Operand) (h : Hp) (p i : Nat), cmpV kon.P .neq 82 x y h (.pointer (none)) (.pointer (some ⟨p, i, none⟩)) = some (.bool true) from by intros; kernel_rfl) <|
  (show ∀ (x y : Operand) (h : Hp), cmpV kon.P .neq 82 x y h (.pointer (none)) (.pointer (none)) = some (.bool false) from by intros; kernel_rfl)
theorem typ4 : type_of% (
  And.intro (L_loadC (C := kon) (t := 5) (by kernel_rfl)) <|
  And.intro (show ∀ (b o : Nat), evFieldAddr kon.P 81 (.pointer (some ⟨b, o, none⟩)) 0 = some (.pointer (some ⟨b, o + 0, none⟩)) from by intros; kernel_rfl) <|
  And.intro (show ∀ (b o : Nat), evFieldAddr kon.P 81 (.pointer (some ⟨b, o, none⟩)) 1 = some (.pointer (some ⟨b, o + 1, none⟩)) from by intros; kernel_rfl) <|
  And.intro (show ∀ (b o : Nat), evFieldAddr kon.P 81 (.pointer (some ⟨b, o, none⟩)) 4 = some (.pointer (some ⟨b, o + 4, none⟩)) from by intros; kernel_rfl) <|
  And.intro (show ∀ (b o : Nat), evFieldAddr kon.P 81 (.pointer (some ⟨b, o, none⟩)) 6 = some (.pointer (some ⟨b, o + 6, none⟩)) from by intros; kernel_rfl) <|
  And.intro (L_alloc (C := kon) (t := 86) (z := (.agg #[.int .i64 0, .int .i64 0, .bool false, .bool false, .bool false, .int .i64 0, .int .i64 0, .int .i64 0, .int .i64 0])) (cs := [.int .i64 0, .int .i64 0, .bool false, .bool false, .bool false, .int .i64 0, .int .i64 0, .int .i64 0, .int .i64 0]) (by kernel_rfl) (by kernel_rfl) (by kernel_rfl)) <|
  And.intro (L_store (C := kon) (t := 86) (n := 9) (by kernel_rfl)) <|
  And.intro (L_buildSlice (C := kon) (t := 23) (e := 9) (n := 1) (z := (.string ByteArray.empty)) (zs := [.string ByteArray.empty]) (len := 4) (by kernel_rfl) (by kernel_rfl) (by kernel_rfl) (by kernel_rfl) (by kernel_rfl) (by kernel_rfl)) <|
  And.intro (show ∀ (s1 : ByteArray) (s2 : ByteArray) (s3 : ByteArray) (s4 : ByteArray), litRow 9 1 4 [.string ByteArray.empty] [(0, (.string s1)), (1, (.string s2)), (2, (.string s3)), (3, (.string s4))] = some (mkRow 9 4 [.string s1, .string s2, .string s3, .string s4]) from by intros; kernel_rfl) <|
  And.intro (show ∀ (b o : Nat), evFieldAddr kon.P 62 (.pointer (some ⟨b, o, none⟩)) 1 = some (.pointer (some ⟨b, o + 1, none⟩)) from by intros; kernel_rfl) <|
  And.intro (L_store (C := kon) (t := 4) (n := 1) (by kernel_rfl)) <|
  And.intro (show ∀ (b o : Nat), evFieldAddr kon.P 86 (.pointer (some ⟨b, o, none⟩)) 0 = some (.pointer (some ⟨b, o + 0, none⟩)) from by intros; kernel_rfl) <|
  And.intro (show ∀ (b o : Nat), evFieldAddr kon.P 86 (.pointer (some ⟨b, o, none⟩)) 1 = some (.pointer (some ⟨b, o + 1, none⟩)) from by intros; kernel_rfl) <|
  And.intro (show ∀ (b o : Nat), evFieldAddr kon.P 86 (.pointer (some ⟨b, o, none⟩)) 2 = some (.pointer (some ⟨b, o + 2, none⟩)) from by intros; kernel_rfl) <|
  And.intro (L_bin (C := kon) (t := 62) (by kernel_rfl)) <|
  And.intro (show ∀ (b o : Nat), evFieldAddr kon.P 86 (.pointer (some ⟨b, o, none⟩)) 3 = some (.pointer (some ⟨b, o + 5, none⟩)) from by intros; kernel_rfl) <|
  And.intro (L_alloc (C := kon) (t := 3) (z := (.int .i64 0)) (cs := [.int .i64 0]) (by kernel_rfl) (by kernel_rfl) (by kernel_rfl)) <|
  And.intro (L_loadA (C := kon) (t := 86) (n := 9) (by kernel_rfl) (by kernel_rfl)) <|
  And.intro (show ∀ (b1 : Bool) (b2 : Bool), evBuild kon.P 62 [(0, (.bool b1)), (2, (.bool b2))] = some (.agg #[.bool b1, .bool false, .bool b2]) from by intros; kernel_rfl) <|
  And.intro (show evBuild kon.P 62 [] = some (.agg #[.bool false, .bool false, .bool false]) from by intros; kernel_rfl) <|
  And.intro (show ∀ (b o : Nat), evFieldAddr kon.P 62 (.pointer (some ⟨b, o, none⟩)) 0 = some (.pointer (some ⟨b, o + 0, none⟩)) from by intros; kernel_rfl) <|
  And.intro (show ∀ (b o : Nat), evFieldAddr kon.P 39 (.pointer (some ⟨b, o, none⟩)) 1 = some (.pointer (some ⟨b, o + 1, none⟩)) from by intros; kernel_rfl) <|
  And.intro (show ∀ (b o : Nat), evFieldAddr kon.P 39 (.pointer (some ⟨b, o, none⟩)) 0 = some (.pointer (some ⟨b, o + 0, none⟩)) from by intros; kernel_rfl) <|
  And.intro (show ∀ (b o : Nat), evFieldAddr kon.P 62 (.pointer (some ⟨b, o, none⟩)) 2 = some (.pointer (some ⟨b, o + 2, none⟩)) from by intros; kernel_rfl) <|
  And.intro (show ∀ (b o : Nat), evFieldAddr kon.P 39 (.pointer (some ⟨b, o, none⟩)) 2 = some (.pointer (some ⟨b, o + 2, none⟩)) from by intros; kernel_rfl) <|
  And.intro (show ∀ (b o : Nat), evFieldAddr kon.P 39 (.pointer (some ⟨b, o, none⟩)) 3 = some (.pointer (some ⟨b, o + 3, none⟩)) from by intros; kernel_rfl) <|
  And.intro (show ∀ (n1 : Int), evBuild kon.P 39 [(2, (.int .i64 n1))] = some (.agg #[.int .i64 0, .int .i64 0, .int .i64 n1, .int .i64 0]) from by intros; kernel_rfl) <|
  And.intro (show ∀ (n1 : Int) (n2 : Int) (n3 : Int) (n4 : Int) (n5 : Int) (n6 : Int), evBuild kon.P 45 [(0, (.int .i64 n1)), (1, (.int .i64 n2)), (6, (.agg #[.int .i64 n3, .int .i64 n4, .int .i64 n5, .int .i64 n6]))] = some (.agg #[.int .i64 n1, .int .i64 n2, .int .i64 0, .string ByteArray.empty, .bool false, .slice none 0 0, .int .i64 n3, .int .i64 n4, .int .i64 n5, .int .i64 n6]) from by intros; kernel_rfl) <|
  And.intro (L_len (C := kon) (t := 100) (by kernel_rfl)) <|
  And.intro (L_lenSl (C := kon) (t := 100) (e := 102) (by kernel_rfl)) <|
  And.intro (L_buildSlice (C := kon) (t := 70) (e := 3) (n := 1) (z := (.int .i64 0)) (zs := [.int .i64 0]) (len := 1) (by kernel_rfl) (by kernel_rfl) (by kernel_rfl) (by kernel_rfl) (by kernel_rfl) (by kernel_rfl)) <|
  And.intro (show ∀ (n1 : Int), litRow 3 1 1 [.int .i64 0] [(0, (.int .i64 n1))] = some (mkRow 3 1 [.int .i64 n1]) from by intros; kernel_rfl) <|
  And.intro (L_buildSlice (C := kon) (t := 101) (e := 4) (n := 1) (z := (.bool false)) (zs := [.bool false]) (len := 1) (by kernel_rfl) (by kernel_rfl) (by kernel_rfl) (by kernel_rfl) (by kernel_rfl) (by kernel_rfl)) <|
  And.intro (show ∀ (b1 : Bool), litRow 4 1 1 [.bool false] [(0, (.bool b1))] = some (mkRow 4 1 [.bool b1]) from by intros; kernel_rfl) <|
  And.intro (L_indexAddr (C := kon) (t := 100) (e := 102) (n := 2) (by kernel_rfl) (by kernel_rfl)) <|
  And.intro (L_indexArr (C := kon) (t := 102) (m := 2) (e := 5) (n := 1) (by kernel_rfl) (by kernel_rfl)) <|
  And.intro (L_buildSlice (C := kon) (t := 35) (e := 5) (n := 1) (z := (.int .u8 0)) (zs := [.int .u8 0]) (len := 2) (by kernel_rfl) (by kernel_rfl) (by kernel_rfl) (by kernel_rfl) (by kernel_rfl) (by kernel_rfl)) <|
  And.intro (show ∀ (n1 : Int) (n2 : Int), litRow 5 1 2 [.int .u8 0] [(0, (.int .u8 n1)), (1, (.int .u8 n2))] = some (mkRow 5 2 [.int .u8 n1, .int .u8 n2]) from by intros; kernel_rfl) <|
  And.intro (L_indexAddr (C := kon) (t := 101) (e := 4) (n := 1) (by kernel_rfl) (by kernel_rfl)) <|
  (L_append (C := kon) (t := 70) (u := 70) (e := 3) (by kernel_rfl))) :=
  And.intro (L_loadC (C := kon) (t := 5) (by kernel_rfl)) <|
  And.intro (show ∀ (b o : Nat), evFieldAddr kon.P 81 (.pointer (some ⟨b, o, none⟩)) 0 = some (.pointer (some ⟨b, o + 0, none⟩)) from by intros; kernel_rfl) <|
  And.intro (show ∀ (b o : Nat), evFieldAddr kon.P 81 (.pointer (some ⟨b, o, none⟩)) 1 = some (.pointer (some ⟨b, o + 1, none⟩)) from by intros; kernel_rfl) <|
  And.intro (show ∀ (b o : Nat), evFieldAddr kon.P 81 (.pointer (some ⟨b, o, none⟩)) 4 = some (.pointer (some ⟨b, o + 4, none⟩)) from by intros; kernel_rfl) <|
  And.intro (show ∀ (b o : Nat), evFieldAddr kon.P 81 (.pointer (some ⟨b, o, none⟩)) 6 = some (.pointer (some ⟨b, o + 6, none⟩)) from by intros; kernel_rfl) <|
  And.intro (L_alloc (C := kon) (t := 86) (z := (.agg #[.int .i64 0, .int .i64 0, .bool false, .bool false, .bool false, .int .i64 0, .int .i64 0, .int .i64 0, .int .i64 0])) (cs := [.int .i64 0, .int .i64 0, .bool false, .bool false, .bool false, .int .i64 0, .int .i64 0, .int .i64 0, .int .i64 0]) (by kernel_rfl) (by kernel_rfl) (by kernel_rfl)) <|
  And.intro (L_store (C := kon) (t := 86) (n := 9) (by kernel_rfl)) <|
  And.intro (L_buildSlice (C := kon) (t := 23) (e := 9) (n := 1) (z := (.string ByteArray.empty)) (zs := [.string ByteArray.empty]) (len := 4) (by kernel_rfl) (by kernel_rfl) (by kernel_rfl) (by kernel_rfl) (by kernel_rfl) (by kernel_rfl)) <|
  And.intro (show ∀ (s1 : ByteArray) (s2 : ByteArray) (s3 : ByteArray) (s4 : ByteArray), litRow 9 1 4 [.string ByteArray.empty] [(0, (.string s1)), (1, (.string s2)), (2, (.string s3)), (3, (.string s4))] = some (mkRow 9 4 [.string s1, .string s2, .string s3, .string s4]) from by intros; kernel_rfl) <|
  And.intro (show ∀ (b o : Nat), evFieldAddr kon.P 62 (.pointer (some ⟨b, o, none⟩)) 1 = some (.pointer (some ⟨b, o + 1, none⟩)) from by intros; kernel_rfl) <|
  And.intro (L_store (C := kon) (t := 4) (n := 1) (by kernel_rfl)) <|
  And.intro (show ∀ (b o : Nat), evFieldAddr kon.P 86 (.pointer (some ⟨b, o, none⟩)) 0 = some (.pointer (some ⟨b, o + 0, none⟩)) from by intros; kernel_rfl) <|
  And.intro (show ∀ (b o : Nat), evFieldAddr kon.P 86 (.pointer (some ⟨b, o, none⟩)) 1 = some (.pointer (some ⟨b, o + 1, none⟩)) from by intros; kernel_rfl) <|
  And.intro (show ∀ (b o : Nat), evFieldAddr kon.P 86 (.pointer (some ⟨b, o, none⟩)) 2 = some (.pointer (some ⟨b, o + 2, none⟩)) from by intros; kernel_rfl) <|
  And.intro (L_bin (C := kon) (t := 62) (by kernel_rfl)) <|
  And.intro (show ∀ (b o : Nat), evFieldAddr kon.P 86 (.pointer (some ⟨b, o, none⟩)) 3 = some (.pointer (some ⟨b, o + 5, none⟩)) from by intros; kernel_rfl) <|
  And.intro (L_alloc (C := kon) (t := 3) (z := (.int .i64 0)) (cs := [.int .i64 0]) (by kernel_rfl) (by kernel_rfl) (by kernel_rfl)) <|
  And.intro (L_loadA (C := kon) (t := 86) (n := 9) (by kernel_rfl) (by kernel_rfl)) <|
  And.intro (show ∀ (b1 : Bool) (b2 : Bool), evBuild kon.P 62 [(0, (.bool b1)), (2, (.bool b2))] = some (.agg #[.bool b1, .bool false, .bool b2]) from by intros; kernel_rfl) <|
  And.intro (show evBuild kon.P 62 [] = some (.agg #[.bool false, .bool false, .bool false]) from by intros; kernel_rfl) <|
  And.intro (show ∀ (b o : Nat), evFieldAddr kon.P 62 (.pointer (some ⟨b, o, none⟩)) 0 = some (.pointer (some ⟨b, o + 0, none⟩)) from by intros; kernel_rfl) <|
  And.intro (show ∀ (b o : Nat), evFieldAddr kon.P 39 (.pointer (some ⟨b, o, none⟩)) 1 = some (.pointer (some ⟨b, o + 1, none⟩)) from by intros; kernel_rfl) <|
  And.intro (show ∀ (b o : Nat), evFieldAddr kon.P 39 (.pointer (some ⟨b, o, none⟩)) 0 = some (.pointer (some ⟨b, o + 0, none⟩)) from by intros; kernel_rfl) <|
  And.intro (show ∀ (b o : Nat), evFieldAddr kon.P 62 (.pointer (some ⟨b, o, none⟩)) 2 = some (.pointer (some ⟨b, o + 2, none⟩)) from by intros; kernel_rfl) <|
  And.intro (show ∀ (b o : Nat), evFieldAddr kon.P 39 (.pointer (some ⟨b, o, none⟩)) 2 = some (.pointer (some ⟨b, o + 2, none⟩)) from by intros; kernel_rfl) <|
  And.intro (show ∀ (b o : Nat), evFieldAddr kon.P 39 (.pointer (some ⟨b, o, none⟩)) 3 = some (.pointer (some ⟨b, o + 3, none⟩)) from by intros; kernel_rfl) <|
  And.intro (show ∀ (n1 : Int), evBuild kon.P 39 [(2, (.int .i64 n1))] = some (.agg #[.int .i64 0, .int .i64 0, .int .i64 n1, .int .i64 0]) from by intros; kernel_rfl) <|
  And.intro (show ∀ (n1 : Int) (n2 : Int) (n3 : Int) (n4 : Int) (n5 : Int) (n6 : Int), evBuild kon.P 45 [(0, (.int .i64 n1)), (1, (.int .i64 n2)), (6, (.agg #[.int .i64 n3, .int .i64 n4, .int .i64 n5, .int .i64 n6]))] = some (.agg #[.int .i64 n1, .int .i64 n2, .int .i64 0, .string ByteArray.empty, .bool false, .slice none 0 0, .int .i64 n3, .int .i64 n4, .int .i64 n5, .int .i64 n6]) from by intros; kernel_rfl) <|
  And.intro (L_len (C := kon) (t := 100) (by kernel_rfl)) <|
  And.intro (L_lenSl (C := kon) (t := 100) (e := 102) (by kernel_rfl)) <|
  And.intro (L_buildSlice (C := kon) (t := 70) (e := 3) (n := 1) (z := (.int .i64 0)) (zs := [.int .i64 0]) (len := 1) (by kernel_rfl) (by kernel_rfl) (by kernel_rfl) (by kernel_rfl) (by kernel_rfl) (by kernel_rfl)) <|
  And.intro (show ∀ (n1 : Int), litRow 3 1 1 [.int .i64 0] [(0, (.int .i64 n1))] = some (mkRow 3 1 [.int .i64 n1]) from by intros; kernel_rfl) <|
  And.intro (L_buildSlice (C := kon) (t := 101) (e := 4) (n := 1) (z := (.bool false)) (zs := [.bool false]) (len := 1) (by kernel_rfl) (by kernel_rfl) (by kernel_rfl) (by kernel_rfl) (by kernel_rfl) (by kernel_rfl)) <|
  And.intro (show ∀ (b1 : Bool), litRow 4 1 1 [.bool false] [(0, (.bool b1))] = some (mkRow 4 1 [.bool b1]) from by intros; kernel_rfl) <|
  And.intro (L_indexAddr (C := kon) (t := 100) (e := 102) (n := 2) (by kernel_rfl) (by kernel_rfl)) <|
  And.intro (L_indexArr (C := kon) (t := 102) (m := 2) (e := 5) (n := 1) (by kernel_rfl) (by kernel_rfl)) <|
  And.intro (L_buildSlice (C := kon) (t := 35) (e := 5) (n := 1) (z := (.int .u8 0)) (zs := [.int .u8 0]) (len := 2) (by kernel_rfl) (by kernel_rfl) (by kernel_rfl) (by kernel_rfl) (by kernel_rfl) (by kernel_rfl)) <|
  And.intro (show ∀ (n1 : Int) (n2 : Int), litRow 5 1 2 [.int .u8 0] [(0, (.int .u8 n1)), (1, (.int .u8 n2))] = some (mkRow 5 2 [.int .u8 n1, .int .u8 n2]) from by intros; kernel_rfl) <|
  And.intro (L_indexAddr (C := kon) (t := 101) (e := 4) (n := 1) (by kernel_rfl) (by kernel_rfl)) <|
  (L_append (C := kon) (t := 70) (u := 70) (e := 3) (by kernel_rfl))
theorem typ5 : type_of% (
  And.intro (L_append (C := kon) (t := 101) (u := 101) (e := 4) (by kernel_rfl)) <|
  And.intro (show ∀ (n1 : Int) (n2 : Int) (a3 : Option Addr) (k4 : Nat) (k5 : Nat), evBuild kon.P 45 [(0, (.int .i64 n1)), (1, (.int .i64 n2)), (5, (.slice a3 k4 k5))] = some (.agg #[.int .i64 n1, .int .i64 n2, .int .i64 0, .string ByteArray.empty, .bool false, .slice a3 k4 k5, .int .i64 0, .int .i64 0, .int .i64 0, .int .i64 0]) from by intros; kernel_rfl) <|
  And.intro (L_indexAddr (C := kon) (t := 37) (e := 64) (n := 4) (by kernel_rfl) (by kernel_rfl)) <|
  And.intro (show ∀ (b o : Nat), evFieldAddr kon.P 64 (.pointer (some ⟨b, o, none⟩)) 0 = some (.pointer (some ⟨b, o + 0, none⟩)) from by intros; kernel_rfl) <|
  And.intro (L_store (C := kon) (t := 9) (n := 1) (by kernel_rfl)) <|
  And.intro (L_loadA (C := kon) (t := 64) (n := 4) (by kernel_rfl) (by kernel_rfl)) <|
  And.intro (L_bin (C := kon) (t := 64) (by kernel_rfl)) <|
  And.intro (show ∀ (b1 : Bool), evBuild kon.P 62 [(0, (.bool b1))] = some (.agg #[.bool b1, .bool false, .bool false]) from by intros; kernel_rfl) <|
  And.intro (L_loadA (C := kon) (t := 45) (n := 10) (by kernel_rfl) (by kernel_rfl)) <|
  And.intro (L_append (C := kon) (t := 23) (u := 23) (e := 9) (by kernel_rfl)) <|
  And.intro (show ∀ (n1 : Int), evBuild kon.P 39 [(0, (.int .i64 n1))] = some (.agg #[.int .i64 n1, .int .i64 0, .int .i64 0, .int .i64 0]) from by intros; kernel_rfl) <|
  And.intro (show ∀ (n1 : Int) (n2 : Int) (s3 : ByteArray), evBuild kon.P 45 [(0, (.int .i64 n1)), (1, (.int .i64 n2)), (3, (.string s3))] = some (.agg #[.int .i64 n1, .int .i64 n2, .int .i64 0, .string s3, .bool false, .slice none 0 0, .int .i64 0, .int .i64 0, .int .i64 0, .int .i64 0]) from by intros; kernel_rfl) <|
  And.intro (L_buildSlice (C := kon) (t := 109) (e := 24) (n := 1) (z := (.int .i64 0)) (zs := [.int .i64 0]) (len := 22) (by kernel_rfl) (by kernel_rfl) (by kernel_rfl) (by kernel_rfl) (by kernel_rfl) (by kernel_rfl)) <|
  And.intro (show ∀ (n1 : Int) (n2 : Int) (n3 : Int) (n4 : Int) (n5 : Int) (n6 : Int) (n7 : Int) (n8 : Int) (n9 : Int) (n10 : Int) (n11 : Int) (n12 : Int) (n13 : Int) (n14 : Int) (n15 : Int) (n16 : Int) (n17 : Int) (n18 : Int) (n19 : Int) (n20 : Int) (n21 : Int) (n22 : Int), litRow 24 1 22 [.int .i64 0] [(0, (.int .i64 n1)), (1, (.int .i64 n2)), (2, (.int .i64 n3)), (3, (.int .i64 n4)), (4, (.int .i64 n5)), (5, (.int .i64 n6)), (6, (.int .i64 n7)), (7, (.int .i64 n8)), (8, (.int .i64 n9)), (9, (.int .i64 n10)), (10, (.int .i64 n11)), (11, (.int .i64 n12)), (12, (.int .i64 n13)), (13, (.int .i64 n14)), (14, (.int .i64 n15)), (15, (.int .i64 n16)), (16, (.int .i64 n17)), (17, (.int .i64 n18)), (18, (.int .i64 n19)), (19, (.int .i64 n20)), (20, (.int .i64 n21)), (21, (.int .i64 n22))] = some (mkRow 24 22 [.int .i64 n1, .int .i64 n2, .int .i64 n3, .int .i64 n4, .int .i64 n5, .int .i64 n6, .int .i64 n7, .int .i64 n8, .int .i64 n9, .int .i64 n10, .int .i64 n11, .int .i64 n12, .int .i64 n13, .int .i64 n14, .int .i64 n15, .int .i64 n16, .int .i64 n17, .int .i64 n18, .int .i64 n19, .int .i64 n20, .int .i64 n21, .int .i64 n22]) from by intros; kernel_rfl) <|
  And.intro (L_len (C := kon) (t := 109) (by kernel_rfl)) <|
  And.intro (L_lenSl (C := kon) (t := 109) (e := 24) (by kernel_rfl)) <|
  And.intro (L_indexAddr (C := kon) (t := 109) (e := 24) (n := 1) (by kernel_rfl) (by kernel_rfl)) <|
  And.intro (L_loadC (C := kon) (t := 24) (by kernel_rfl)) <|
  And.intro (show ∀ (b o : Nat), evFieldAddr kon.P 45 (.pointer (some ⟨b, o, none⟩)) 3 = some (.pointer (some ⟨b, o + 3, none⟩)) from by intros; kernel_rfl) <|
  And.intro (L_buildSlice (C := kon) (t := 23) (e := 9) (n := 1) (z := (.string ByteArray.empty)) (zs := [.string ByteArray.empty]) (len := 2) (by kernel_rfl) (by kernel_rfl) (by kernel_rfl) (by kernel_rfl) (by kernel_rfl) (by kernel_rfl)) <|
  And.intro (show ∀ (s1 : ByteArray) (s2 : ByteArray), litRow 9 1 2 [.string ByteArray.empty] [(0, (.string s1)), (1, (.string s2))] = some (mkRow 9 2 [.string s1, .string s2]) from by intros; kernel_rfl) <|
  And.intro (L_sliceStr (C := kon) (t := 9) (by kernel_rfl)) <|
  And.intro (L_index (C := kon) (t := 9) (by kernel_rfl)) <|
  And.intro (L_makeMap (C := kon) (t := 115) (kt := 153) (et := 122) (by kernel_rfl)) <|
  And.intro (L_makeMap (C := kon) (t := 116) (kt := 3) (et := 3) (by kernel_rfl)) <|
  And.intro (L_makeMap (C := kon) (t := 117) (kt := 3) (et := 122) (by kernel_rfl)) <|
  And.intro (show ∀ (m1 : Option Nat) (m2 : Option Nat) (m3 : Option Nat), evBuild kon.P 119 [(0, (.map m1)), (1, (.map m2)), (2, (.map m3))] = some (.agg #[.map m1, .map m2, .map m3, .int .i64 0]) from by intros; kernel_rfl) <|
  And.intro (L_cmp (C := kon) (t := 122) (by kernel_rfl) (op := .neq) rfl) <|
  And.intro (L_cmpN (C := kon) (t := 122) (by kernel_rfl)) <|
  And.intro (show ∀ (x y : Operand) (h : Hp) (p i : Nat), cmpV kon.P .neq 122 x y h (.pointer (some ⟨p, i, none⟩)) (.pointer (none)) = some (.bool true) from by intros; kernel_rfl) <|
  And.intro (show ∀ (x y : Operand) (h : Hp) (p i : Nat), cmpV kon.P .neq 122 x y h (.pointer (none)) (.pointer (some ⟨p, i, none⟩)) = some (.bool true) from by intros; kernel_rfl) <|
  And.intro (show ∀ (x y : Operand) (h : Hp), cmpV kon.P .neq 122 x y h (.pointer (none)) (.pointer (none)) = some (.bool false) from by intros; kernel_rfl) <|
  And.intro (show ∀ (n1 : Int) (n2 : Int) (n3 : Int) (s4 : ByteArray) (b5 : Bool) (a6 : Option Addr) (k7 : Nat) (k8 : Nat) (n9 : Int) (n10 : Int) (n11 : Int) (n12 : Int) (n13 : Int), evBuild kon.P 126 [(0, (.agg #[.int .i64 n1, .int .i64 n2, .int .i64 n3, .string s4, .bool b5, .slice a6 k7 k8, .int .i64 n9, .int .i64 n10, .int .i64 n11, .int .i64 n12])), (1, (.int .i64 n13))] = some (.agg #[.int .i64 n1, .int .i64 n2, .int .i64 n3, .string s4, .bool b5, .slice a6 k7 k8, .int .i64 n9, .int .i64 n10, .int .i64 n11, .int .i64 n12, .int .i64 n13, .int .i64 0]) from by intros; kernel_rfl) <|
  And.intro (show ∀ (b o : Nat), evFieldAddr kon.P 119 (.pointer (some ⟨b, o, none⟩)) 2 = some (.pointer (some ⟨b, o + 2, none⟩)) from by intros; kernel_rfl) <|
  And.intro (L_loadC (C := kon) (t := 117) (by kernel_rfl)) <|
  And.intro (show ∀ (b o : Nat), evFieldAddr kon.P 119 (.pointer (some ⟨b, o, none⟩)) 3 = some (.pointer (some ⟨b, o + 3, none⟩)) from by intros; kernel_rfl) <|
  And.intro (show ∀ (b o : Nat), evFieldAddr kon.P 119 (.pointer (some ⟨b, o, none⟩)) 1 = some (.pointer (some ⟨b, o + 1, none⟩)) from by intros; kernel_rfl) <|
  And.intro (L_loadC (C := kon) (t := 116) (by kernel_rfl)) <|
  And.intro (L_cmp (C := kon) (t := 122) (by kernel_rfl) (op := .eql) rfl) <|
  (L_cmpE (C := kon) (t := 122) (by kernel_rfl))) :=
  And.intro (L_append (C := kon) (t := 101) (u := 101) (e := 4) (by kernel_rfl)) <|
  And.intro (show ∀ (n1 : Int) (n2 : Int) (a3 : Option Addr) (k4 : Nat) (k5 : Nat), evBuild kon.P 45 [(0, (.int .i64 n1)), (1, (.int .i64 n2)), (5, (.slice a3 k4 k5))] = some (.agg #[.int .i64 n1, .int .i64 n2, .int .i64 0, .string ByteArray.empty, .bool false, .slice a3 k4 k5, .int .i64 0, .int .i64 0, .int .i64 0, .int .i64 0]) from by intros; kernel_rfl) <|
  And.intro (L_indexAddr (C := kon) (t := 37) (e := 64) (n := 4) (by kernel_rfl) (by kernel_rfl)) <|
  And.intro (show ∀ (b o : Nat), evFieldAddr kon.P 64 (.pointer (some ⟨b, o, none⟩)) 0 = some (.pointer (some ⟨b, o + 0, none⟩)) from by intros; kernel_rfl) <|
  And.intro (L_store (C := kon) (t := 9) (n := 1) (by kernel_rfl)) <|
  And.intro (L_loadA (C := kon) (t := 64) (n := 4) (by kernel_rfl) (by kernel_rfl)) <|
  And.intro (L_bin (C := kon) (t := 64) (by kernel_rfl)) <|
  And.intro (show ∀ (b1 : Bool), evBuild kon.P 62 [(0, (.bool b1))] = some (.agg #[.bool b1, .bool false, .bool false]) from by intros; kernel_rfl) <|
  And.intro (L_loadA (C := kon) (t := 45) (n := 10) (by kernel_rfl) (by kernel_rfl)) <|
  And.intro (L_append (C := kon) (t := 23) (u := 23) (e := 9) (by kernel_rfl)) <|
  And.intro (show ∀ (n1 : Int), evBuild kon.P 39 [(0, (.int .i64 n1))] = some (.agg #[.int .i64 n1, .int .i64 0, .int .i64 0, .int .i64 0]) from by intros; kernel_rfl) <|
  And.intro (show ∀ (n1 : Int) (n2 : Int) (s3 : ByteArray), evBuild kon.P 45 [(0, (.int .i64 n1)), (1, (.int .i64 n2)), (3, (.string s3))] = some (.agg #[.int .i64 n1, .int .i64 n2, .int .i64 0, .string s3, .bool false, .slice none 0 0, .int .i64 0, .int .i64 0, .int .i64 0, .int .i64 0]) from by intros; kernel_rfl) <|
  And.intro (L_buildSlice (C := kon) (t := 109) (e := 24) (n := 1) (z := (.int .i64 0)) (zs := [.int .i64 0]) (len := 22) (by kernel_rfl) (by kernel_rfl) (by kernel_rfl) (by kernel_rfl) (by kernel_rfl) (by kernel_rfl)) <|
  And.intro (show ∀ (n1 : Int) (n2 : Int) (n3 : Int) (n4 : Int) (n5 : Int) (n6 : Int) (n7 : Int) (n8 : Int) (n9 : Int) (n10 : Int) (n11 : Int) (n12 : Int) (n13 : Int) (n14 : Int) (n15 : Int) (n16 : Int) (n17 : Int) (n18 : Int) (n19 : Int) (n20 : Int) (n21 : Int) (n22 : Int), litRow 24 1 22 [.int .i64 0] [(0, (.int .i64 n1)), (1, (.int .i64 n2)), (2, (.int .i64 n3)), (3, (.int .i64 n4)), (4, (.int .i64 n5)), (5, (.int .i64 n6)), (6, (.int .i64 n7)), (7, (.int .i64 n8)), (8, (.int .i64 n9)), (9, (.int .i64 n10)), (10, (.int .i64 n11)), (11, (.int .i64 n12)), (12, (.int .i64 n13)), (13, (.int .i64 n14)), (14, (.int .i64 n15)), (15, (.int .i64 n16)), (16, (.int .i64 n17)), (17, (.int .i64 n18)), (18, (.int .i64 n19)), (19, (.int .i64 n20)), (20, (.int .i64 n21)), (21, (.int .i64 n22))] = some (mkRow 24 22 [.int .i64 n1, .int .i64 n2, .int .i64 n3, .int .i64 n4, .int .i64 n5, .int .i64 n6, .int .i64 n7, .int .i64 n8, .int .i64 n9, .int .i64 n10, .int .i64 n11, .int .i64 n12, .int .i64 n13, .int .i64 n14, .int .i64 n15, .int .i64 n16, .int .i64 n17, .int .i64 n18, .int .i64 n19, .int .i64 n20, .int .i64 n21, .int .i64 n22]) from by intros; kernel_rfl) <|
  And.intro (L_len (C := kon) (t := 109) (by kernel_rfl)) <|
  And.intro (L_lenSl (C := kon) (t := 109) (e := 24) (by kernel_rfl)) <|
  And.intro (L_indexAddr (C := kon) (t := 109) (e := 24) (n := 1) (by kernel_rfl) (by kernel_rfl)) <|
  And.intro (L_loadC (C := kon) (t := 24) (by kernel_rfl)) <|
  And.intro (show ∀ (b o : Nat), evFieldAddr kon.P 45 (.pointer (some ⟨b, o, none⟩)) 3 = some (.pointer (some ⟨b, o + 3, none⟩)) from by intros; kernel_rfl) <|
  And.intro (L_buildSlice (C := kon) (t := 23) (e := 9) (n := 1) (z := (.string ByteArray.empty)) (zs := [.string ByteArray.empty]) (len := 2) (by kernel_rfl) (by kernel_rfl) (by kernel_rfl) (by kernel_rfl) (by kernel_rfl) (by kernel_rfl)) <|
  And.intro (show ∀ (s1 : ByteArray) (s2 : ByteArray), litRow 9 1 2 [.string ByteArray.empty] [(0, (.string s1)), (1, (.string s2))] = some (mkRow 9 2 [.string s1, .string s2]) from by intros; kernel_rfl) <|
  And.intro (L_sliceStr (C := kon) (t := 9) (by kernel_rfl)) <|
  And.intro (L_index (C := kon) (t := 9) (by kernel_rfl)) <|
  And.intro (L_makeMap (C := kon) (t := 115) (kt := 153) (et := 122) (by kernel_rfl)) <|
  And.intro (L_makeMap (C := kon) (t := 116) (kt := 3) (et := 3) (by kernel_rfl)) <|
  And.intro (L_makeMap (C := kon) (t := 117) (kt := 3) (et := 122) (by kernel_rfl)) <|
  And.intro (show ∀ (m1 : Option Nat) (m2 : Option Nat) (m3 : Option Nat), evBuild kon.P 119 [(0, (.map m1)), (1, (.map m2)), (2, (.map m3))] = some (.agg #[.map m1, .map m2, .map m3, .int .i64 0]) from by intros; kernel_rfl) <|
  And.intro (L_cmp (C := kon) (t := 122) (by kernel_rfl) (op := .neq) rfl) <|
  And.intro (L_cmpN (C := kon) (t := 122) (by kernel_rfl)) <|
  And.intro (show ∀ (x y : Operand) (h : Hp) (p i : Nat), cmpV kon.P .neq 122 x y h (.pointer (some ⟨p, i, none⟩)) (.pointer (none)) = some (.bool true) from by intros; kernel_rfl) <|
  And.intro (show ∀ (x y : Operand) (h : Hp) (p i : Nat), cmpV kon.P .neq 122 x y h (.pointer (none)) (.pointer (some ⟨p, i, none⟩)) = some (.bool true) from by intros; kernel_rfl) <|
  And.intro (show ∀ (x y : Operand) (h : Hp), cmpV kon.P .neq 122 x y h (.pointer (none)) (.pointer (none)) = some (.bool false) from by intros; kernel_rfl) <|
  And.intro (show ∀ (n1 : Int) (n2 : Int) (n3 : Int) (s4 : ByteArray) (b5 : Bool) (a6 : Option Addr) (k7 : Nat) (k8 : Nat) (n9 : Int) (n10 : Int) (n11 : Int) (n12 : Int) (n13 : Int), evBuild kon.P 126 [(0, (.agg #[.int .i64 n1, .int .i64 n2, .int .i64 n3, .string s4, .bool b5, .slice a6 k7 k8, .int .i64 n9, .int .i64 n10, .int .i64 n11, .int .i64 n12])), (1, (.int .i64 n13))] = some (.agg #[.int .i64 n1, .int .i64 n2, .int .i64 n3, .string s4, .bool b5, .slice a6 k7 k8, .int .i64 n9, .int .i64 n10, .int .i64 n11, .int .i64 n12, .int .i64 n13, .int .i64 0]) from by intros; kernel_rfl) <|
  And.intro (show ∀ (b o : Nat), evFieldAddr kon.P 119 (.pointer (some ⟨b, o, none⟩)) 2 = some (.pointer (some ⟨b, o + 2, none⟩)) from by intros; kernel_rfl) <|
  And.intro (L_loadC (C := kon) (t := 117) (by kernel_rfl)) <|
  And.intro (show ∀ (b o : Nat), evFieldAddr kon.P 119 (.pointer (some ⟨b, o, none⟩)) 3 = some (.pointer (some ⟨b, o + 3, none⟩)) from by intros; kernel_rfl) <|
  And.intro (show ∀ (b o : Nat), evFieldAddr kon.P 119 (.pointer (some ⟨b, o, none⟩)) 1 = some (.pointer (some ⟨b, o + 1, none⟩)) from by intros; kernel_rfl) <|
  And.intro (L_loadC (C := kon) (t := 116) (by kernel_rfl)) <|
  And.intro (L_cmp (C := kon) (t := 122) (by kernel_rfl) (op := .eql) rfl) <|
  (L_cmpE (C := kon) (t := 122) (by kernel_rfl))
theorem typ6 : type_of% (
  And.intro (show ∀ (x y : Operand) (h : Hp) (p i : Nat), cmpV kon.P .eql 122 x y h (.pointer (some ⟨p, i, none⟩)) (.pointer (none)) = some (.bool false) from by intros; kernel_rfl) <|
  And.intro (show ∀ (x y : Operand) (h : Hp) (p i : Nat), cmpV kon.P .eql 122 x y h (.pointer (none)) (.pointer (some ⟨p, i, none⟩)) = some (.bool false) from by intros; kernel_rfl) <|
  And.intro (show ∀ (x y : Operand) (h : Hp), cmpV kon.P .eql 122 x y h (.pointer (none)) (.pointer (none)) = some (.bool true) from by intros; kernel_rfl) <|
  And.intro (show ∀ (b o : Nat), evFieldAddr kon.P 126 (.pointer (some ⟨b, o, none⟩)) 0 = some (.pointer (some ⟨b, o + 0, none⟩)) from by intros; kernel_rfl) <|
  And.intro (L_store (C := kon) (t := 37) (n := 1) (by kernel_rfl)) <|
  And.intro (L_store (C := kon) (t := 39) (n := 4) (by kernel_rfl)) <|
  And.intro (show evBuild kon.P 45 [] = some (.agg #[.int .i64 0, .int .i64 0, .int .i64 0, .string ByteArray.empty, .bool false, .slice none 0 0, .int .i64 0, .int .i64 0, .int .i64 0, .int .i64 0]) from by intros; kernel_rfl) <|
  And.intro (show ∀ (b o : Nat), evFieldAddr kon.P 137 (.pointer (some ⟨b, o, none⟩)) 2 = some (.pointer (some ⟨b, o + 2, none⟩)) from by intros; kernel_rfl) <|
  And.intro (L_loadC (C := kon) (t := 23) (by kernel_rfl)) <|
  And.intro (L_store (C := kon) (t := 23) (n := 1) (by kernel_rfl)) <|
  And.intro (show ∀ (a1 : Option Addr) (n2 : Int) (a3 : Option Addr) (k4 : Nat) (k5 : Nat), evBuild kon.P 137 [(0, (.pointer a1)), (1, (.int .i64 n2)), (2, (.slice a3 k4 k5))] = some (.agg #[.pointer a1, .int .i64 n2, .slice a3 k4 k5, .int .i64 0]) from by intros; kernel_rfl) <|
  And.intro (show ∀ (n1 : Int) (n2 : Int) (n3 : Int), evBuild kon.P 66 [(1, (.int .i64 n1)), (5, (.int .i64 n2)), (6, (.int .i64 n3))] = some (.agg #[.int .i64 0, .int .i64 n1, .int .i64 0, .int .i64 0, .int .i64 0, .int .i64 n2, .int .i64 n3]) from by intros; kernel_rfl) <|
  And.intro (L_loadC (C := kon) (t := 40) (by kernel_rfl)) <|
  And.intro (L_alloc (C := kon) (t := 66) (z := (.agg #[.int .i64 0, .int .i64 0, .int .i64 0, .int .i64 0, .int .i64 0, .int .i64 0, .int .i64 0])) (cs := [.int .i64 0, .int .i64 0, .int .i64 0, .int .i64 0, .int .i64 0, .int .i64 0, .int .i64 0]) (by kernel_rfl) (by kernel_rfl) (by kernel_rfl)) <|
  And.intro (L_store (C := kon) (t := 66) (n := 7) (by kernel_rfl)) <|
  And.intro (show ∀ (b o : Nat), evFieldAddr kon.P 66 (.pointer (some ⟨b, o, none⟩)) 6 = some (.pointer (some ⟨b, o + 6, none⟩)) from by intros; kernel_rfl) <|
  And.intro (show ∀ (b o : Nat), evFieldAddr kon.P 66 (.pointer (some ⟨b, o, none⟩)) 5 = some (.pointer (some ⟨b, o + 5, none⟩)) from by intros; kernel_rfl) <|
  And.intro (show ∀ (b o : Nat), evFieldAddr kon.P 66 (.pointer (some ⟨b, o, none⟩)) 1 = some (.pointer (some ⟨b, o + 1, none⟩)) from by intros; kernel_rfl) <|
  And.intro (L_buildSlice (C := kon) (t := 74) (e := 73) (n := 2) (z := (.agg #[.int .i64 0, .string ByteArray.empty])) (zs := [.int .i64 0, .string ByteArray.empty]) (len := 2) (by kernel_rfl) (by kernel_rfl) (by kernel_rfl) (by kernel_rfl) (by kernel_rfl) (by kernel_rfl)) <|
  And.intro (show ∀ (n1 : Int) (s2 : ByteArray) (n3 : Int) (s4 : ByteArray), litRow 73 2 2 [.int .i64 0, .string ByteArray.empty] [(0, (.agg #[.int .i64 n1, .string s2])), (1, (.agg #[.int .i64 n3, .string s4]))] = some (mkRow 73 2 [.int .i64 n1, .string s2, .int .i64 n3, .string s4]) from by intros; kernel_rfl) <|
  And.intro (L_len (C := kon) (t := 74) (by kernel_rfl)) <|
  And.intro (L_lenSl (C := kon) (t := 74) (e := 73) (by kernel_rfl)) <|
  And.intro (L_alloc (C := kon) (t := 73) (z := (.agg #[.int .i64 0, .string ByteArray.empty])) (cs := [.int .i64 0, .string ByteArray.empty]) (by kernel_rfl) (by kernel_rfl) (by kernel_rfl)) <|
  And.intro (L_store (C := kon) (t := 73) (n := 2) (by kernel_rfl)) <|
  And.intro (L_makeMap (C := kon) (t := 143) (kt := 3) (et := 146) (by kernel_rfl)) <|
  And.intro (show ∀ (n1 : Int) (m2 : Option Nat), evBuild kon.P 145 [(0, (.int .i64 n1)), (3, (.map m2))] = some (.agg #[.int .i64 n1, .int .i64 0, .int .i64 0, .map m2]) from by intros; kernel_rfl) <|
  And.intro (show ∀ (b o : Nat), evFieldAddr kon.P 145 (.pointer (some ⟨b, o, none⟩)) 2 = some (.pointer (some ⟨b, o + 2, none⟩)) from by intros; kernel_rfl) <|
  And.intro (show ∀ (b o : Nat), evFieldAddr kon.P 145 (.pointer (some ⟨b, o, none⟩)) 3 = some (.pointer (some ⟨b, o + 3, none⟩)) from by intros; kernel_rfl) <|
  And.intro (L_loadC (C := kon) (t := 143) (by kernel_rfl)) <|
  And.intro (show ∀ (b o : Nat), evFieldAddr kon.P 145 (.pointer (some ⟨b, o, none⟩)) 1 = some (.pointer (some ⟨b, o + 1, none⟩)) from by intros; kernel_rfl) <|
  And.intro (show evBuild kon.P 86 [] = some (.agg #[.int .i64 0, .int .i64 0, .bool false, .bool false, .bool false, .int .i64 0, .int .i64 0, .int .i64 0, .int .i64 0]) from by intros; kernel_rfl) <|
  And.intro (show ∀ (n1 : Int) (n2 : Int) (b3 : Bool) (b4 : Bool) (b5 : Bool) (n6 : Int) (n7 : Int) (n8 : Int) (n9 : Int), evBuild kon.P 86 [(0, (.int .i64 n1)), (1, (.int .i64 n2)), (2, (.agg #[.bool b3, .bool b4, .bool b5])), (3, (.agg #[.int .i64 n6, .int .i64 n7, .int .i64 n8, .int .i64 n9]))] = some (.agg #[.int .i64 n1, .int .i64 n2, .bool b3, .bool b4, .bool b5, .int .i64 n6, .int .i64 n7, .int .i64 n8, .int .i64 n9]) from by intros; kernel_rfl) <|
  And.intro (show ∀ (b o : Nat), evFieldAddr kon.P 45 (.pointer (some ⟨b, o, none⟩)) 4 = some (.pointer (some ⟨b, o + 4, none⟩)) from by intros; kernel_rfl) <|
  And.intro (show ∀ (b o : Nat), evFieldAddr kon.P 64 (.pointer (some ⟨b, o, none⟩)) 1 = some (.pointer (some ⟨b, o + 1, none⟩)) from by intros; kernel_rfl) <|
  And.intro (L_len (C := kon) (t := 146) (by kernel_rfl)) <|
  And.intro (L_lenSl (C := kon) (t := 146) (e := 222) (by kernel_rfl)) <|
  And.intro (show ∀ (b o : Nat), evFieldAddr kon.P 126 (.pointer (some ⟨b, o, none⟩)) 2 = some (.pointer (some ⟨b, o + 11, none⟩)) from by intros; kernel_rfl) <|
  And.intro (show ∀ (b o : Nat), evFieldAddr kon.P 126 (.pointer (some ⟨b, o, none⟩)) 1 = some (.pointer (some ⟨b, o + 10, none⟩)) from by intros; kernel_rfl) <|
  And.intro (L_alloc (C := kon) (t := 160) (z := (.agg #[.pointer none, .slice none 0 0])) (cs := [.pointer none, .slice none 0 0]) (by kernel_rfl) (by kernel_rfl) (by kernel_rfl)) <|
  (show ∀ (b o : Nat), evFieldAddr kon.P 119 (.pointer (some ⟨b, o, none⟩)) 0 = some (.pointer (some ⟨b, o + 0, none⟩)) from by intros; kernel_rfl)) :=
  And.intro (show ∀ (x y : Operand) (h : Hp) (p i : Nat), cmpV kon.P .eql 122 x y h (.pointer (some ⟨p, i, none⟩)) (.pointer (none)) = some (.bool false) from by intros; kernel_rfl) <|
  And.intro (show ∀ (x y : Operand) (h : Hp) (p i : Nat), cmpV kon.P .eql 122 x y h (.pointer (none)) (.pointer (some ⟨p, i, none⟩)) = some (.bool false) from by intros; kernel_rfl) <|
  And.intro (show ∀ (x y : Operand) (h : Hp), cmpV kon.P .eql 122 x y h (.pointer (none)) (.pointer (none)) = some (.bool true) from by intros; kernel_rfl) <|
  And.intro (show ∀ (b o : Nat), evFieldAddr kon.P 126 (.pointer (some ⟨b, o, none⟩)) 0 = some (.pointer (some ⟨b, o + 0, none⟩)) from by intros; kernel_rfl) <|
  And.intro (L_store (C := kon) (t := 37) (n := 1) (by kernel_rfl)) <|
  And.intro (L_store (C := kon) (t := 39) (n := 4) (by kernel_rfl)) <|
  And.intro (show evBuild kon.P 45 [] = some (.agg #[.int .i64 0, .int .i64 0, .int .i64 0, .string ByteArray.empty, .bool false, .slice none 0 0, .int .i64 0, .int .i64 0, .int .i64 0, .int .i64 0]) from by intros; kernel_rfl) <|
  And.intro (show ∀ (b o : Nat), evFieldAddr kon.P 137 (.pointer (some ⟨b, o, none⟩)) 2 = some (.pointer (some ⟨b, o + 2, none⟩)) from by intros; kernel_rfl) <|
  And.intro (L_loadC (C := kon) (t := 23) (by kernel_rfl)) <|
  And.intro (L_store (C := kon) (t := 23) (n := 1) (by kernel_rfl)) <|
  And.intro (show ∀ (a1 : Option Addr) (n2 : Int) (a3 : Option Addr) (k4 : Nat) (k5 : Nat), evBuild kon.P 137 [(0, (.pointer a1)), (1, (.int .i64 n2)), (2, (.slice a3 k4 k5))] = some (.agg #[.pointer a1, .int .i64 n2, .slice a3 k4 k5, .int .i64 0]) from by intros; kernel_rfl) <|
  And.intro (show ∀ (n1 : Int) (n2 : Int) (n3 : Int), evBuild kon.P 66 [(1, (.int .i64 n1)), (5, (.int .i64 n2)), (6, (.int .i64 n3))] = some (.agg #[.int .i64 0, .int .i64 n1, .int .i64 0, .int .i64 0, .int .i64 0, .int .i64 n2, .int .i64 n3]) from by intros; kernel_rfl) <|
  And.intro (L_loadC (C := kon) (t := 40) (by kernel_rfl)) <|
  And.intro (L_alloc (C := kon) (t := 66) (z := (.agg #[.int .i64 0, .int .i64 0, .int .i64 0, .int .i64 0, .int .i64 0, .int .i64 0, .int .i64 0])) (cs := [.int .i64 0, .int .i64 0, .int .i64 0, .int .i64 0, .int .i64 0, .int .i64 0, .int .i64 0]) (by kernel_rfl) (by kernel_rfl) (by kernel_rfl)) <|
  And.intro (L_store (C := kon) (t := 66) (n := 7) (by kernel_rfl)) <|
  And.intro (show ∀ (b o : Nat), evFieldAddr kon.P 66 (.pointer (some ⟨b, o, none⟩)) 6 = some (.pointer (some ⟨b, o + 6, none⟩)) from by intros; kernel_rfl) <|
  And.intro (show ∀ (b o : Nat), evFieldAddr kon.P 66 (.pointer (some ⟨b, o, none⟩)) 5 = some (.pointer (some ⟨b, o + 5, none⟩)) from by intros; kernel_rfl) <|
  And.intro (show ∀ (b o : Nat), evFieldAddr kon.P 66 (.pointer (some ⟨b, o, none⟩)) 1 = some (.pointer (some ⟨b, o + 1, none⟩)) from by intros; kernel_rfl) <|
  And.intro (L_buildSlice (C := kon) (t := 74) (e := 73) (n := 2) (z := (.agg #[.int .i64 0, .string ByteArray.empty])) (zs := [.int .i64 0, .string ByteArray.empty]) (len := 2) (by kernel_rfl) (by kernel_rfl) (by kernel_rfl) (by kernel_rfl) (by kernel_rfl) (by kernel_rfl)) <|
  And.intro (show ∀ (n1 : Int) (s2 : ByteArray) (n3 : Int) (s4 : ByteArray), litRow 73 2 2 [.int .i64 0, .string ByteArray.empty] [(0, (.agg #[.int .i64 n1, .string s2])), (1, (.agg #[.int .i64 n3, .string s4]))] = some (mkRow 73 2 [.int .i64 n1, .string s2, .int .i64 n3, .string s4]) from by intros; kernel_rfl) <|
  And.intro (L_len (C := kon) (t := 74) (by kernel_rfl)) <|
  And.intro (L_lenSl (C := kon) (t := 74) (e := 73) (by kernel_rfl)) <|
  And.intro (L_alloc (C := kon) (t := 73) (z := (.agg #[.int .i64 0, .string ByteArray.empty])) (cs := [.int .i64 0, .string ByteArray.empty]) (by kernel_rfl) (by kernel_rfl) (by kernel_rfl)) <|
  And.intro (L_store (C := kon) (t := 73) (n := 2) (by kernel_rfl)) <|
  And.intro (L_makeMap (C := kon) (t := 143) (kt := 3) (et := 146) (by kernel_rfl)) <|
  And.intro (show ∀ (n1 : Int) (m2 : Option Nat), evBuild kon.P 145 [(0, (.int .i64 n1)), (3, (.map m2))] = some (.agg #[.int .i64 n1, .int .i64 0, .int .i64 0, .map m2]) from by intros; kernel_rfl) <|
  And.intro (show ∀ (b o : Nat), evFieldAddr kon.P 145 (.pointer (some ⟨b, o, none⟩)) 2 = some (.pointer (some ⟨b, o + 2, none⟩)) from by intros; kernel_rfl) <|
  And.intro (show ∀ (b o : Nat), evFieldAddr kon.P 145 (.pointer (some ⟨b, o, none⟩)) 3 = some (.pointer (some ⟨b, o + 3, none⟩)) from by intros; kernel_rfl) <|
  And.intro (L_loadC (C := kon) (t := 143) (by kernel_rfl)) <|
  And.intro (show ∀ (b o : Nat), evFieldAddr kon.P 145 (.pointer (some ⟨b, o, none⟩)) 1 = some (.pointer (some ⟨b, o + 1, none⟩)) from by intros; kernel_rfl) <|
  And.intro (show evBuild kon.P 86 [] = some (.agg #[.int .i64 0, .int .i64 0, .bool false, .bool false, .bool false, .int .i64 0, .int .i64 0, .int .i64 0, .int .i64 0]) from by intros; kernel_rfl) <|
  And.intro (show ∀ (n1 : Int) (n2 : Int) (b3 : Bool) (b4 : Bool) (b5 : Bool) (n6 : Int) (n7 : Int) (n8 : Int) (n9 : Int), evBuild kon.P 86 [(0, (.int .i64 n1)), (1, (.int .i64 n2)), (2, (.agg #[.bool b3, .bool b4, .bool b5])), (3, (.agg #[.int .i64 n6, .int .i64 n7, .int .i64 n8, .int .i64 n9]))] = some (.agg #[.int .i64 n1, .int .i64 n2, .bool b3, .bool b4, .bool b5, .int .i64 n6, .int .i64 n7, .int .i64 n8, .int .i64 n9]) from by intros; kernel_rfl) <|
  And.intro (show ∀ (b o : Nat), evFieldAddr kon.P 45 (.pointer (some ⟨b, o, none⟩)) 4 = some (.pointer (some ⟨b, o + 4, none⟩)) from by intros; kernel_rfl) <|
  And.intro (show ∀ (b o : Nat), evFieldAddr kon.P 64 (.pointer (some ⟨b, o, none⟩)) 1 = some (.pointer (some ⟨b, o + 1, none⟩)) from by intros; kernel_rfl) <|
  And.intro (L_len (C := kon) (t := 146) (by kernel_rfl)) <|
  And.intro (L_lenSl (C := kon) (t := 146) (e := 222) (by kernel_rfl)) <|
  And.intro (show ∀ (b o : Nat), evFieldAddr kon.P 126 (.pointer (some ⟨b, o, none⟩)) 2 = some (.pointer (some ⟨b, o + 11, none⟩)) from by intros; kernel_rfl) <|
  And.intro (show ∀ (b o : Nat), evFieldAddr kon.P 126 (.pointer (some ⟨b, o, none⟩)) 1 = some (.pointer (some ⟨b, o + 10, none⟩)) from by intros; kernel_rfl) <|
  And.intro (L_alloc (C := kon) (t := 160) (z := (.agg #[.pointer none, .slice none 0 0])) (cs := [.pointer none, .slice none 0 0]) (by kernel_rfl) (by kernel_rfl) (by kernel_rfl)) <|
  (show ∀ (b o : Nat), evFieldAddr kon.P 119 (.pointer (some ⟨b, o, none⟩)) 0 = some (.pointer (some ⟨b, o + 0, none⟩)) from by intros; kernel_rfl)
theorem typ7 : type_of% (
  And.intro (L_loadC (C := kon) (t := 115) (by kernel_rfl)) <|
  And.intro (show ∀ (n1 : Int) (s2 : ByteArray), evBuild kon.P 153 [(0, (.int .i64 n1)), (1, (.string s2))] = some (.agg #[.int .i64 n1, .string s2]) from by intros; kernel_rfl) <|
  And.intro (show ∀ (n1 : Int) (n2 : Int), evBuild kon.P 45 [(0, (.int .i64 n1)), (2, (.int .i64 n2))] = some (.agg #[.int .i64 n1, .int .i64 0, .int .i64 n2, .string ByteArray.empty, .bool false, .slice none 0 0, .int .i64 0, .int .i64 0, .int .i64 0, .int .i64 0]) from by intros; kernel_rfl) <|
  And.intro (L_alloc (C := kon) (t := 64) (z := (.agg #[.string ByteArray.empty, .bool false, .bool false, .bool false])) (cs := [.string ByteArray.empty, .bool false, .bool false, .bool false]) (by kernel_rfl) (by kernel_rfl) (by kernel_rfl)) <|
  And.intro (L_store (C := kon) (t := 64) (n := 4) (by kernel_rfl)) <|
  And.intro (L_bin (C := kon) (t := 37) (by kernel_rfl)) <|
  And.intro (show ∀ (x y : Operand) (p i l q : Nat), evBin kon.P .eql 37 x y (.slice (some ⟨p, i, none⟩) l q) (.slice none 0 0) = some (.bool false) from by intros; kernel_rfl) <|
  And.intro (show ∀ (x y : Operand), evBin kon.P .eql 37 x y (.slice none 0 0) (.slice none 0 0) = some (.bool true) from by intros; kernel_rfl) <|
  And.intro (L_buildSlice (C := kon) (t := 37) (e := 64) (n := 4) (z := (.agg #[.string ByteArray.empty, .bool false, .bool false, .bool false])) (zs := [.string ByteArray.empty, .bool false, .bool false, .bool false]) (len := 0) (by kernel_rfl) (by kernel_rfl) (by kernel_rfl) (by kernel_rfl) (by kernel_rfl) (by kernel_rfl)) <|
  And.intro (show litRow 64 4 0 [.string ByteArray.empty, .bool false, .bool false, .bool false] [] = some (mkRow 64 0 []) from by intros; kernel_rfl) <|
  And.intro (L_append (C := kon) (t := 37) (u := 37) (e := 64) (by kernel_rfl)) <|
  And.intro (show ∀ (a1 : Option Addr) (a2 : Option Addr) (k3 : Nat) (k4 : Nat), evBuild kon.P 137 [(0, (.pointer a1)), (2, (.slice a2 k3 k4))] = some (.agg #[.pointer a1, .int .i64 0, .slice a2 k3 k4, .int .i64 0]) from by intros; kernel_rfl) <|
  And.intro (show ∀ (b o : Nat), evFieldAddr kon.P 137 (.pointer (some ⟨b, o, none⟩)) 0 = some (.pointer (some ⟨b, o + 0, none⟩)) from by intros; kernel_rfl) <|
  And.intro (show ∀ (b o : Nat), evFieldAddr kon.P 137 (.pointer (some ⟨b, o, none⟩)) 1 = some (.pointer (some ⟨b, o + 1, none⟩)) from by intros; kernel_rfl) <|
  And.intro (show ∀ (b o : Nat), evFieldAddr kon.P 66 (.pointer (some ⟨b, o, none⟩)) 2 = some (.pointer (some ⟨b, o + 2, none⟩)) from by intros; kernel_rfl) <|
  And.intro (show ∀ (b o : Nat), evFieldAddr kon.P 66 (.pointer (some ⟨b, o, none⟩)) 0 = some (.pointer (some ⟨b, o + 0, none⟩)) from by intros; kernel_rfl) <|
  And.intro (show ∀ (b o : Nat), evFieldAddr kon.P 66 (.pointer (some ⟨b, o, none⟩)) 4 = some (.pointer (some ⟨b, o + 4, none⟩)) from by intros; kernel_rfl) <|
  And.intro (show ∀ (b o : Nat), evFieldAddr kon.P 66 (.pointer (some ⟨b, o, none⟩)) 3 = some (.pointer (some ⟨b, o + 3, none⟩)) from by intros; kernel_rfl) <|
  And.intro (show ∀ (b o : Nat), evFieldAddr kon.P 73 (.pointer (some ⟨b, o, none⟩)) 1 = some (.pointer (some ⟨b, o + 1, none⟩)) from by intros; kernel_rfl) <|
  And.intro (show ∀ (b o : Nat), evFieldAddr kon.P 73 (.pointer (some ⟨b, o, none⟩)) 0 = some (.pointer (some ⟨b, o + 0, none⟩)) from by intros; kernel_rfl) <|
  And.intro (show ∀ (b o : Nat), evFieldAddr kon.P 145 (.pointer (some ⟨b, o, none⟩)) 0 = some (.pointer (some ⟨b, o + 0, none⟩)) from by intros; kernel_rfl) <|
  (show ∀ (b o : Nat), evFieldAddr kon.P 137 (.pointer (some ⟨b, o, none⟩)) 3 = some (.pointer (some ⟨b, o + 3, none⟩)) from by intros; kernel_rfl)) :=
  And.intro (L_loadC (C := kon) (t := 115) (by kernel_rfl)) <|
  And.intro (show ∀ (n1 : Int) (s2 : ByteArray), evBuild kon.P 153 [(0, (.int .i64 n1)), (1, (.string s2))] = some (.agg #[.int .i64 n1, .string s2]) from by intros; kernel_rfl) <|
  And.intro (show ∀ (n1 : Int) (n2 : Int), evBuild kon.P 45 [(0, (.int .i64 n1)), (2, (.int .i64 n2))] = some (.agg #[.int .i64 n1, .int .i64 0, .int .i64 n2, .string ByteArray.empty, .bool false, .slice none 0 0, .int .i64 0, .int .i64 0, .int .i64 0, .int .i64 0]) from by intros; kernel_rfl) <|
  And.intro (L_alloc (C := kon) (t := 64) (z := (.agg #[.string ByteArray.empty, .bool false, .bool false, .bool false])) (cs := [.string ByteArray.empty, .bool false, .bool false, .bool false]) (by kernel_rfl) (by kernel_rfl) (by kernel_rfl)) <|
  And.intro (L_store (C := kon) (t := 64) (n := 4) (by kernel_rfl)) <|
  And.intro (L_bin (C := kon) (t := 37) (by kernel_rfl)) <|
  And.intro (show ∀ (x y : Operand) (p i l q : Nat), evBin kon.P .eql 37 x y (.slice (some ⟨p, i, none⟩) l q) (.slice none 0 0) = some (.bool false) from by intros; kernel_rfl) <|
  And.intro (show ∀ (x y : Operand), evBin kon.P .eql 37 x y (.slice none 0 0) (.slice none 0 0) = some (.bool true) from by intros; kernel_rfl) <|
  And.intro (L_buildSlice (C := kon) (t := 37) (e := 64) (n := 4) (z := (.agg #[.string ByteArray.empty, .bool false, .bool false, .bool false])) (zs := [.string ByteArray.empty, .bool false, .bool false, .bool false]) (len := 0) (by kernel_rfl) (by kernel_rfl) (by kernel_rfl) (by kernel_rfl) (by kernel_rfl) (by kernel_rfl)) <|
  And.intro (show litRow 64 4 0 [.string ByteArray.empty, .bool false, .bool false, .bool false] [] = some (mkRow 64 0 []) from by intros; kernel_rfl) <|
  And.intro (L_append (C := kon) (t := 37) (u := 37) (e := 64) (by kernel_rfl)) <|
  And.intro (show ∀ (a1 : Option Addr) (a2 : Option Addr) (k3 : Nat) (k4 : Nat), evBuild kon.P 137 [(0, (.pointer a1)), (2, (.slice a2 k3 k4))] = some (.agg #[.pointer a1, .int .i64 0, .slice a2 k3 k4, .int .i64 0]) from by intros; kernel_rfl) <|
  And.intro (show ∀ (b o : Nat), evFieldAddr kon.P 137 (.pointer (some ⟨b, o, none⟩)) 0 = some (.pointer (some ⟨b, o + 0, none⟩)) from by intros; kernel_rfl) <|
  And.intro (show ∀ (b o : Nat), evFieldAddr kon.P 137 (.pointer (some ⟨b, o, none⟩)) 1 = some (.pointer (some ⟨b, o + 1, none⟩)) from by intros; kernel_rfl) <|
  And.intro (show ∀ (b o : Nat), evFieldAddr kon.P 66 (.pointer (some ⟨b, o, none⟩)) 2 = some (.pointer (some ⟨b, o + 2, none⟩)) from by intros; kernel_rfl) <|
  And.intro (show ∀ (b o : Nat), evFieldAddr kon.P 66 (.pointer (some ⟨b, o, none⟩)) 0 = some (.pointer (some ⟨b, o + 0, none⟩)) from by intros; kernel_rfl) <|
  And.intro (show ∀ (b o : Nat), evFieldAddr kon.P 66 (.pointer (some ⟨b, o, none⟩)) 4 = some (.pointer (some ⟨b, o + 4, none⟩)) from by intros; kernel_rfl) <|
  And.intro (show ∀ (b o : Nat), evFieldAddr kon.P 66 (.pointer (some ⟨b, o, none⟩)) 3 = some (.pointer (some ⟨b, o + 3, none⟩)) from by intros; kernel_rfl) <|
  And.intro (show ∀ (b o : Nat), evFieldAddr kon.P 73 (.pointer (some ⟨b, o, none⟩)) 1 = some (.pointer (some ⟨b, o + 1, none⟩)) from by intros; kernel_rfl) <|
  And.intro (show ∀ (b o : Nat), evFieldAddr kon.P 73 (.pointer (some ⟨b, o, none⟩)) 0 = some (.pointer (some ⟨b, o + 0, none⟩)) from by intros; kernel_rfl) <|
  And.intro (show ∀ (b o : Nat), evFieldAddr kon.P 145 (.pointer (some ⟨b, o, none⟩)) 0 = some (.pointer (some ⟨b, o + 0, none⟩)) from by intros; kernel_rfl) <|
  (show ∀ (b o : Nat), evFieldAddr kon.P 137 (.pointer (some ⟨b, o, none⟩)) 3 = some (.pointer (some ⟨b, o + 3, none⟩)) from by intros; kernel_rfl)
theorem typs : type_of% typ1 ∧ type_of% typ2 ∧ type_of% typ3 ∧ type_of% typ4 ∧ type_of% typ5 ∧ type_of% typ6 ∧ type_of% typ7 :=
  ⟨typ1, typ2, typ3, typ4, typ5, typ6, typ7⟩
end Go.Proofs.YtncmgiddcefpcaaDoor
namespace Go.Proofs.YtncmgiddcefpcaaDoor
open Go Go.Ev Go.Con
set_option linter.unusedSimpArgs false
set_option linter.unusedVariables false
set_option maxRecDepth 100000
def strs (l : List ByteArray) : List Value := l.map Value.string
abbrev StrSl (h : Hp) (v : Value) (l : List ByteArray) : Prop := SlAt h 1 v (strs l)
theorem wrap64 {x : Int} (h1 : -9223372036854775808 ≤ x) (h2 : x ≤ 9223372036854775807) : IntKind.i64.wrap x = x := by
  simp [IntKind.wrap, IntKind.signed, IntKind.bits]; omega
theorem StrSl.len {h : Hp} {v : Value} {l : List ByteArray} (s : StrSl h v l) : evLen kon.P 23 v = some (.int .i64 l.length) := by
  rcases s with ⟨rfl, hl⟩ | ⟨b, o, k, c, all, rfl, h2, h3, h4, h5, h6⟩
  · have : l = [] := by simpa [strs] using hl
    subst this
    exact evLen_slice (e := 9) (by kernel_rfl)
  · have : l.length = k := by simpa [strs] using h5
    subst this
    exact evLen_slice (e := 9) (by kernel_rfl)
theorem StrSl.at {h : Hp} {v : Value} {l : List ByteArray} (s : StrSl h v l) {i : Nat} {x : ByteArray} (hi : l[i]? = some x) : ∃ p, evIndexAddr kon.P 23 v (.int .i64 i) = some p ∧ evLoad kon.P 9 p h = some (.string x) := by
  have hlt : i < l.length := (List.getElem?_eq_some_iff.1 hi).1
  rcases s with ⟨rfl, hl⟩ | ⟨b, o, k, c, all, rfl, h2, h3, h4, h5, h6⟩
  · have : l = [] := by simpa [strs] using hl
    subst this; simp at hlt
  · have hk : l.length = k := by simpa [strs] using h5
    subst hk
    refine ⟨_, L_indexAddr (C := kon) (t := 23) (e := 9) (n := 1) (by kernel_rfl) (by kernel_rfl) b o l.length c .i64 i (by omega) (by omega), ?_⟩
    rw [L_loadC (C := kon) (t := 9) (by kernel_rfl), h4]
    simp only [Option.bind_some, cellAt, Int.toNat_natCast, Nat.mul_one]
    have : (strs l)[i]? = some (.string x) := by simp [strs, hi]
    rw [← h6, List.getElem?_take, if_pos (by omega), List.getElem?_drop] at this
    exact this
theorem byteAt_get {s : ByteArray} {i : Nat} (h : i < s.size) : s.data.toList[i]? = some (byteAt s i) := by
  unfold byteAt
  have : i < s.data.toList.length := by rw [Array.length_toList]; exact h
  rw [List.getD_eq_getElem?_getD, List.getElem?_eq_getElem this]; rfl
theorem plainB_false {s : ByteArray} {m i : Nat} (h : i < s.size) (hs : signB (byteAt s i) = false) : plainB s m = false := by
  unfold plainB
  have : s.data.toList.all signB = false := by
    rw [Bool.eq_false_iff]; intro hall
    rw [List.all_eq_true] at hall
    have := hall _ (List.mem_of_getElem? (byteAt_get h))
    rw [hs] at this; cases this
  rw [this, Bool.and_false]
theorem ix62 : evIndex kon.P 9 (.string ⟨#[62]⟩) (.int .i64 0) = some (.int .u8 62) := by kernel_rfl
theorem ixAt {s : ByteArray} {i : Nat} (h : i < s.size) : evIndex kon.P 9 (.string s) (.int .i64 i) = some (.int .u8 ((byteAt s i).toNat : Int)) := by
  have := L_index (C := kon) (t := 9) (by kernel_rfl) s .i64 i (by omega) (by omega)
  simpa using this
theorem signs_spec (s : ByteArray) (m : Nat) (mi : Int) (he : mi = (m : Int)) (hm : m ≤ 1000) (h : Hp) : Meets kon 76 [.string s, .int .i64 mi] h fun v h' => v = .bool (plainB s m) ∧ h' = h := by
  subst he
  refine Meets.mk rfl (by kernel_rfl) Tryd.func76 rfl (congrArg Array.toList Tryd.results76) ?_
  rcases Bool.eq_false_or_eq_true (decide ((s.size : Int) < 1)) with e1 | e1
  · simp only [evr, nextP_norm, evd, evq, beq_self_eq_true, cond_true, cond_false, reduceIte, Nat.reduceEqDiff, Nat.reduceAdd, Int.reduceBNe, Int.reduceBEq, Int.reduceLT, Int.reduceLE, Int.reduceEq, typs, e1]
    have : ¬ 1 ≤ s.size := by simp at e1; omega
    simp [plainB, this]
  rcases Bool.eq_false_or_eq_true (decide ((m : Int) < s.size)) with e2 | e2
  · simp only [evr, nextP_norm, evd, evq, beq_self_eq_true, cond_true, cond_false, reduceIte, Nat.reduceEqDiff, Nat.reduceAdd, Int.reduceBNe, Int.reduceBEq, Int.reduceLT, Int.reduceLE, Int.reduceEq, typs, e1, e2]
    have : ¬ s.size ≤ m := by simp at e2; omega
    simp [plainB, this]
  simp only [evr, nextP_norm, evd, evq, beq_self_eq_true, cond_true, cond_false, reduceIte, Nat.reduceEqDiff, Nat.reduceAdd, Int.reduceBNe, Int.reduceBEq, Int.reduceLT, Int.reduceLE, Int.reduceEq, typs, e1, e2]
  have h1 : 1 ≤ s.size := by simp at e1; omega
  have h2 : s.size ≤ m := by simp at e2; omega
  refine Wp_loop (fun k fr h' => h' = h ∧ ∃ i : Nat, k = s.size - i ∧ i ≤ s.size ∧ fr.get 0 = some (.string s) ∧ fr.get 16 = some (.int .i64 s.size) ∧ fr.get 17 = some (.int .i64 i) ∧ (s.data.toList.take i).all signB = true) s.size ⟨rfl, 0, rfl, Nat.zero_le _, ?_, ?_, ?_, rfl⟩ ?_
  · simp only [evr, nextP_norm, evd, evq, beq_self_eq_true, cond_true, cond_false, reduceIte, Nat.reduceEqDiff, Nat.reduceAdd, Int.reduceBNe, Int.reduceBEq, Int.reduceLT, Int.reduceLE, Int.reduceEq, typs]
  · simp only [evr, nextP_norm, evd, evq, beq_self_eq_true, cond_true, cond_false, reduceIte, Nat.reduceEqDiff, Nat.reduceAdd, Int.reduceBNe, Int.reduceBEq, Int.reduceLT, Int.reduceLE, Int.reduceEq, typs]
  · simp only [evr, nextP_norm, evd, evq, beq_self_eq_true, cond_true, cond_false, reduceIte, Nat.reduceEqDiff, Nat.reduceAdd, Int.reduceBNe, Int.reduceBEq, Int.reduceLT, Int.reduceLE, Int.reduceEq, typs]
    rfl
  rintro k fr h' ⟨rfl, i, rfl, hi, g0, g16, g17, hp⟩
  by_cases h3 : i < s.size
  · have e3 : decide ((i : Int) < s.size) = true := by simp; omega
    have hx := ixAt h3
    simp only [evr, nextP_norm, evd, evq, beq_self_eq_true, cond_true, cond_false, reduceIte, Nat.reduceEqDiff, Nat.reduceAdd, Int.reduceBNe, Int.reduceBEq, Int.reduceLT, Int.reduceLE, Int.reduceEq, typs, g0, g16, g17, e3]
    refine Eq.mpr (Wp_drawOrd (KR.mk (by kernel_rfl))) ?_
    cases hb : signB (byteAt s i) with
    | false =>
      have hf := plainB_false (m := m) h3 hb
      rcases Bool.eq_false_or_eq_true (decide (((byteAt s i).toNat : Int) < 33)) with e4 | e4
      · simp only [evr, nextP_norm, evd, evq, beq_self_eq_true, cond_true, cond_false, reduceIte, Nat.reduceEqDiff, Nat.reduceAdd, Int.reduceBNe, Int.reduceBEq, Int.reduceLT, Int.reduceLE, Int.reduceEq, typs, g0, g16, g17, hx, ix62, e4]
        rw [hf]
      rcases Bool.eq_false_or_eq_true (decide ((126 : Int) < ((byteAt s i).toNat : Int))) with e5 | e5
      · simp only [evr, nextP_norm, evd, evq, beq_self_eq_true, cond_true, cond_false, reduceIte, Nat.reduceEqDiff, Nat.reduceAdd, Int.reduceBNe, Int.reduceBEq, Int.reduceLT, Int.reduceLE, Int.reduceEq, typs, g0, g16, g17, hx, ix62, e4, e5]
        rw [hf]
      have e6 : (((byteAt s i).toNat : Int) == 62) = true := by
        simp [signB] at hb e4 e5 ⊢; omega
      simp only [evr, nextP_norm, evd, evq, beq_self_eq_true, cond_true, cond_false, reduceIte, Nat.reduceEqDiff, Nat.reduceAdd, Int.reduceBNe, Int.reduceBEq, Int.reduceLT, Int.reduceLE, Int.reduceEq, typs, g0, g16, g17, hx, ix62, e4, e5, e6]
      rw [hf]
    | true =>
      have ⟨e4, e5, e6⟩ : decide (((byteAt s i).toNat : Int) < 33) = false ∧ decide ((126 : Int) < ((byteAt s i).toNat : Int)) = false ∧ (((byteAt s i).toNat : Int) == 62) = false := by
        simp [signB] at hb ⊢; omega
      simp only [evr, nextP_norm, evd, evq, beq_self_eq_true, cond_true, cond_false, reduceIte, Nat.reduceEqDiff, Nat.reduceAdd, Int.reduceBNe, Int.reduceBEq, Int.reduceLT, Int.reduceLE, Int.reduceEq, typs, g0, g16, g17, hx, ix62, e4, e5, e6, wrap64 (x := (i : Int) + 1) (by omega) (by omega)]
      refine ⟨s.size - (i + 1), by omega, i + 1, rfl, by omega, rfl, ?_⟩
      rw [List.take_add_one, byteAt_get h3, List.all_append, hp]
      simp [hb]
  · have e3 : decide ((i : Int) < s.size) = false := by simp; omega
    simp only [evr, nextP_norm, evd, evq, beq_self_eq_true, cond_true, cond_false, reduceIte, Nat.reduceEqDiff, Nat.reduceAdd, Int.reduceBNe, Int.reduceBEq, Int.reduceLT, Int.reduceLE, Int.reduceEq, typs, g0, g16, g17, e3]
    have : i = s.data.toList.length := by rw [Array.length_toList]; exact (show i = s.size by omega)
    rw [List.take_of_length_le (by omega)] at hp
    simp [plainB, h1, h2, hp]
theorem may_spec (s : ByteArray) (h : Hp) : Meets kon 26 [.string s] h fun v h' => v = .bool (mayN s) ∧ h' = h := by
  refine Meets.mk rfl (by kernel_rfl) Tryd.func26 rfl (congrArg Array.toList Tryd.results26) ?_
  simp only [evr, nextP_norm, evd, evq, beq_self_eq_true, cond_true, cond_false, reduceIte, Nat.reduceEqDiff, Nat.reduceAdd, Int.reduceBNe, Int.reduceBEq, Int.reduceLT, Int.reduceLE, Int.reduceEq, typs, (signs_spec s 32 32 rfl (by omega) h).call]
theorem user_spec (s : ByteArray) (h : Hp) : Meets kon 28 [.string s] h fun v h' => v = .bool (mayU s) ∧ h' = h := by
  refine Meets.mk rfl (by kernel_rfl) Tryd.func28 rfl (congrArg Array.toList Tryd.results28) ?_
  simp only [evr, nextP_norm, evd, evq, beq_self_eq_true, cond_true, cond_false, reduceIte, Nat.reduceEqDiff, Nat.reduceAdd, Int.reduceBNe, Int.reduceBEq, Int.reduceLT, Int.reduceLE, Int.reduceEq, typs, (signs_spec s 16 16 rfl (by omega) h).call]
end Go.Proofs.YtncmgiddcefpcaaDoor
