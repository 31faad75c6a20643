/- The rules of operations at the types of this program: each closed fact found by evaluation. -/
import Derived.Test.YtncmgiddcefpcaaGreatDoorEvM3
import Derived.Test.YtncmgiddcefpcaaGreatDoorEvM4
import Derived.Test.YtncmgiddcefpcaaGreatDoorCtx0
namespace Go.Proofs.YtncmgiddcefpcaaGreatDoor
open Go Go.Ev
set_option maxRecDepth 100000
theorem typ1 : type_of% (
  And.intro (L_len (C := kon) (t := 9) (by kernel_rfl)) <|
  And.intro (L_lenStr (C := kon) (t := 9) (by kernel_rfl)) <|
  And.intro (L_bin (C := kon) (t := 3) (by kernel_rfl)) <|
  And.intro (L_cmp (C := kon) (t := 25) (by kernel_rfl) (op := .eql) rfl) <|
  And.intro (L_cmpE (C := kon) (t := 25) (by kernel_rfl)) <|
  And.intro (show ∀ (x y : Operand) (h : Hp) (p i : Nat), cmpV kon.P .eql 25 x y h (.pointer (some ⟨p, i, none⟩)) (.pointer (none)) = some (.bool false) from by intros; kernel_rfl) <|
  And.intro (show ∀ (x y : Operand) (h : Hp) (p i : Nat), cmpV kon.P .eql 25 x y h (.pointer (none)) (.pointer (some ⟨p, i, none⟩)) = some (.bool false) from by intros; kernel_rfl) <|
  And.intro (show ∀ (x y : Operand) (h : Hp), cmpV kon.P .eql 25 x y h (.pointer (none)) (.pointer (none)) = some (.bool true) from by intros; kernel_rfl) <|
  And.intro (L_len (C := kon) (t := 22) (by kernel_rfl)) <|
  And.intro (L_lenSl (C := kon) (t := 22) (e := 36) (by kernel_rfl)) <|
  And.intro (L_indexAddr (C := kon) (t := 22) (e := 36) (n := 14) (by kernel_rfl) (by kernel_rfl)) <|
  And.intro (L_loadA (C := kon) (t := 36) (n := 14) (by kernel_rfl) (by kernel_rfl)) <|
  And.intro (show ∀ (n1 : Int) (s2 : ByteArray), evBuild kon.P 40 [(0, (.int .i64 n1)), (3, (.string s2))] = some (.agg #[.int .i64 n1, .int .i64 0, .int .i64 0, .string s2, .bool false, .slice none 0 0, .int .i64 0, .int .i64 0, .int .i64 0, .int .i64 0]) from by intros; kernel_rfl) <|
  And.intro (L_bin (C := kon) (t := 37) (by kernel_rfl)) <|
  And.intro (L_alloc (C := kon) (t := 40) (z := (.agg #[.int .i64 0, .int .i64 0, .int .i64 0, .string ByteArray.empty, .bool false, .slice none 0 0, .int .i64 0, .int .i64 0, .int .i64 0, .int .i64 0])) (cs := [.int .i64 0, .int .i64 0, .int .i64 0, .string ByteArray.empty, .bool false, .slice none 0 0, .int .i64 0, .int .i64 0, .int .i64 0, .int .i64 0]) (by kernel_rfl) (by kernel_rfl) (by kernel_rfl)) <|
  And.intro (L_store (C := kon) (t := 40) (n := 10) (by kernel_rfl)) <|
  And.intro (L_bin (C := kon) (t := 9) (by kernel_rfl)) <|
  And.intro (L_loadA (C := kon) (t := 40) (n := 10) (by kernel_rfl) (by kernel_rfl)) <|
  And.intro (L_len (C := kon) (t := 46) (by kernel_rfl)) <|
  And.intro (L_lenSl (C := kon) (t := 46) (e := 9) (by kernel_rfl)) <|
  And.intro (L_indexAddr (C := kon) (t := 46) (e := 9) (n := 1) (by kernel_rfl) (by kernel_rfl)) <|
  And.intro (L_loadC (C := kon) (t := 9) (by kernel_rfl)) <|
  And.intro (L_alloc (C := kon) (t := 34) (z := (.agg #[.int .i64 0, .int .i64 0, .int .i64 0, .string ByteArray.empty, .bool false, .slice none 0 0, .int .i64 0, .int .i64 0, .int .i64 0, .int .i64 0])) (cs := [.int .i64 0, .int .i64 0, .int .i64 0, .string ByteArray.empty, .bool false, .slice none 0 0, .int .i64 0, .int .i64 0, .int .i64 0, .int .i64 0]) (by kernel_rfl) (by kernel_rfl) (by kernel_rfl)) <|
  And.intro (L_store (C := kon) (t := 34) (n := 10) (by kernel_rfl)) <|
  And.intro (L_loadA (C := kon) (t := 34) (n := 10) (by kernel_rfl) (by kernel_rfl)) <|
  And.intro (L_loadA (C := kon) (t := 32) (n := 4) (by kernel_rfl) (by kernel_rfl)) <|
  And.intro (L_cmp (C := kon) (t := 25) (by kernel_rfl) (op := .neq) rfl) <|
  And.intro (L_cmpN (C := kon) (t := 25) (by kernel_rfl)) <|
  And.intro (show ∀ (x y : Operand) (h : Hp) (p i : Nat), cmpV kon.P .neq 25 x y h (.pointer (some ⟨p, i, none⟩)) (.pointer (none)) = some (.bool true) from by intros; kernel_rfl) <|
  And.intro (show ∀ (x y : Operand) (h : Hp) (p i : Nat), cmpV kon.P .neq 25 x y h (.pointer (none)) (.pointer (some ⟨p, i, none⟩)) = some (.bool true) from by intros; kernel_rfl) <|
  And.intro (show ∀ (x y : Operand) (h : Hp), cmpV kon.P .neq 25 x y h (.pointer (none)) (.pointer (none)) = some (.bool false) from by intros; kernel_rfl) <|
  And.intro (show ∀ (b1 : Bool) (b2 : Bool) (b3 : Bool), evBuild kon.P 62 [(0, (.bool b1)), (1, (.bool b2)), (2, (.bool b3))] = some (.agg #[.bool b1, .bool b2, .bool b3]) from by intros; kernel_rfl) <|
  And.intro (L_alloc (C := kon) (t := 62) (z := (.agg #[.bool false, .bool false, .bool false])) (cs := [.bool false, .bool false, .bool false]) (by kernel_rfl) (by kernel_rfl) (by kernel_rfl)) <|
  And.intro (L_store (C := kon) (t := 62) (n := 3) (by kernel_rfl)) <|
  And.intro (show ∀ (b o : Nat), evFieldAddr kon.P 60 (.pointer (some ⟨b, o, none⟩)) 2 = some (.pointer (some ⟨b, o + 2, none⟩)) from by intros; kernel_rfl) <|
  And.intro (L_store (C := kon) (t := 3) (n := 1) (by kernel_rfl)) <|
  And.intro (show ∀ (b o : Nat), evFieldAddr kon.P 60 (.pointer (some ⟨b, o, none⟩)) 0 = some (.pointer (some ⟨b, o + 0, none⟩)) from by intros; kernel_rfl) <|
  And.intro (L_loadA (C := kon) (t := 62) (n := 3) (by kernel_rfl) (by kernel_rfl)) <|
  And.intro (show ∀ (s1 : ByteArray) (b2 : Bool) (b3 : Bool) (b4 : Bool), evBuild kon.P 65 [(0, (.string s1)), (1, (.agg #[.bool b2, .bool b3, .bool b4]))] = some (.agg #[.string s1, .bool b2, .bool b3, .bool b4]) from by intros; kernel_rfl) <|
  (L_buildSlice (C := kon) (t := 30) (e := 65) (n := 4) (z := (.agg #[.string ByteArray.empty, .bool false, .bool false, .bool false])) (zs := [.string ByteArray.empty, .bool false, .bool false, .bool false]) (len := 1) (by kernel_rfl) (by kernel_rfl) (by kernel_rfl) (by kernel_rfl) (by kernel_rfl) (by kernel_rfl))) :=
  And.intro (L_len (C := kon) (t := 9) (by kernel_rfl)) <|
  And.intro (L_lenStr (C := kon) (t := 9) (by kernel_rfl)) <|
  And.intro (L_bin (C := kon) (t := 3) (by kernel_rfl)) <|
  And.intro (L_cmp (C := kon) (t := 25) (by kernel_rfl) (op := .eql) rfl) <|
  And.intro (L_cmpE (C := kon) (t := 25) (by kernel_rfl)) <|
  And.intro (show ∀ (x y : Operand) (h : Hp) (p i : Nat), cmpV kon.P .eql 25 x y h (.pointer (some ⟨p, i, none⟩)) (.pointer (none)) = some (.bool false) from by intros; kernel_rfl) <|
  And.intro (show ∀ (x y : Operand) (h : Hp) (p i : Nat), cmpV kon.P .eql 25 x y h (.pointer (none)) (.pointer (some ⟨p, i, none⟩)) = some (.bool false) from by intros; kernel_rfl) <|
  And.intro (show ∀ (x y : Operand) (h : Hp), cmpV kon.P .eql 25 x y h (.pointer (none)) (.pointer (none)) = some (.bool true) from by intros; kernel_rfl) <|
  And.intro (L_len (C := kon) (t := 22) (by kernel_rfl)) <|
  And.intro (L_lenSl (C := kon) (t := 22) (e := 36) (by kernel_rfl)) <|
  And.intro (L_indexAddr (C := kon) (t := 22) (e := 36) (n := 14) (by kernel_rfl) (by kernel_rfl)) <|
  And.intro (L_loadA (C := kon) (t := 36) (n := 14) (by kernel_rfl) (by kernel_rfl)) <|
  And.intro (show ∀ (n1 : Int) (s2 : ByteArray), evBuild kon.P 40 [(0, (.int .i64 n1)), (3, (.string s2))] = some (.agg #[.int .i64 n1, .int .i64 0, .int .i64 0, .string s2, .bool false, .slice none 0 0, .int .i64 0, .int .i64 0, .int .i64 0, .int .i64 0]) from by intros; kernel_rfl) <|
  And.intro (L_bin (C := kon) (t := 37) (by kernel_rfl)) <|
  And.intro (L_alloc (C := kon) (t := 40) (z := (.agg #[.int .i64 0, .int .i64 0, .int .i64 0, .string ByteArray.empty, .bool false, .slice none 0 0, .int .i64 0, .int .i64 0, .int .i64 0, .int .i64 0])) (cs := [.int .i64 0, .int .i64 0, .int .i64 0, .string ByteArray.empty, .bool false, .slice none 0 0, .int .i64 0, .int .i64 0, .int .i64 0, .int .i64 0]) (by kernel_rfl) (by kernel_rfl) (by kernel_rfl)) <|
  And.intro (L_store (C := kon) (t := 40) (n := 10) (by kernel_rfl)) <|
  And.intro (L_bin (C := kon) (t := 9) (by kernel_rfl)) <|
  And.intro (L_loadA (C := kon) (t := 40) (n := 10) (by kernel_rfl) (by kernel_rfl)) <|
  And.intro (L_len (C := kon) (t := 46) (by kernel_rfl)) <|
  And.intro (L_lenSl (C := kon) (t := 46) (e := 9) (by kernel_rfl)) <|
  And.intro (L_indexAddr (C := kon) (t := 46) (e := 9) (n := 1) (by kernel_rfl) (by kernel_rfl)) <|
  And.intro (L_loadC (C := kon) (t := 9) (by kernel_rfl)) <|
  And.intro (L_alloc (C := kon) (t := 34) (z := (.agg #[.int .i64 0, .int .i64 0, .int .i64 0, .string ByteArray.empty, .bool false, .slice none 0 0, .int .i64 0, .int .i64 0, .int .i64 0, .int .i64 0])) (cs := [.int .i64 0, .int .i64 0, .int .i64 0, .string ByteArray.empty, .bool false, .slice none 0 0, .int .i64 0, .int .i64 0, .int .i64 0, .int .i64 0]) (by kernel_rfl) (by kernel_rfl) (by kernel_rfl)) <|
  And.intro (L_store (C := kon) (t := 34) (n := 10) (by kernel_rfl)) <|
  And.intro (L_loadA (C := kon) (t := 34) (n := 10) (by kernel_rfl) (by kernel_rfl)) <|
  And.intro (L_loadA (C := kon) (t := 32) (n := 4) (by kernel_rfl) (by kernel_rfl)) <|
  And.intro (L_cmp (C := kon) (t := 25) (by kernel_rfl) (op := .neq) rfl) <|
  And.intro (L_cmpN (C := kon) (t := 25) (by kernel_rfl)) <|
  And.intro (show ∀ (x y : Operand) (h : Hp) (p i : Nat), cmpV kon.P .neq 25 x y h (.pointer (some ⟨p, i, none⟩)) (.pointer (none)) = some (.bool true) from by intros; kernel_rfl) <|
  And.intro (show ∀ (x y : Operand) (h : Hp) (p i : Nat), cmpV kon.P .neq 25 x y h (.pointer (none)) (.pointer (some ⟨p, i, none⟩)) = some (.bool true) from by intros; kernel_rfl) <|
  And.intro (show ∀ (x y : Operand) (h : Hp), cmpV kon.P .neq 25 x y h (.pointer (none)) (.pointer (none)) = some (.bool false) from by intros; kernel_rfl) <|
  And.intro (show ∀ (b1 : Bool) (b2 : Bool) (b3 : Bool), evBuild kon.P 62 [(0, (.bool b1)), (1, (.bool b2)), (2, (.bool b3))] = some (.agg #[.bool b1, .bool b2, .bool b3]) from by intros; kernel_rfl) <|
  And.intro (L_alloc (C := kon) (t := 62) (z := (.agg #[.bool false, .bool false, .bool false])) (cs := [.bool false, .bool false, .bool false]) (by kernel_rfl) (by kernel_rfl) (by kernel_rfl)) <|
  And.intro (L_store (C := kon) (t := 62) (n := 3) (by kernel_rfl)) <|
  And.intro (show ∀ (b o : Nat), evFieldAddr kon.P 60 (.pointer (some ⟨b, o, none⟩)) 2 = some (.pointer (some ⟨b, o + 2, none⟩)) from by intros; kernel_rfl) <|
  And.intro (L_store (C := kon) (t := 3) (n := 1) (by kernel_rfl)) <|
  And.intro (show ∀ (b o : Nat), evFieldAddr kon.P 60 (.pointer (some ⟨b, o, none⟩)) 0 = some (.pointer (some ⟨b, o + 0, none⟩)) from by intros; kernel_rfl) <|
  And.intro (L_loadA (C := kon) (t := 62) (n := 3) (by kernel_rfl) (by kernel_rfl)) <|
  And.intro (show ∀ (s1 : ByteArray) (b2 : Bool) (b3 : Bool) (b4 : Bool), evBuild kon.P 65 [(0, (.string s1)), (1, (.agg #[.bool b2, .bool b3, .bool b4]))] = some (.agg #[.string s1, .bool b2, .bool b3, .bool b4]) from by intros; kernel_rfl) <|
  (L_buildSlice (C := kon) (t := 30) (e := 65) (n := 4) (z := (.agg #[.string ByteArray.empty, .bool false, .bool false, .bool false])) (zs := [.string ByteArray.empty, .bool false, .bool false, .bool false]) (len := 1) (by kernel_rfl) (by kernel_rfl) (by kernel_rfl) (by kernel_rfl) (by kernel_rfl) (by kernel_rfl))
theorem typ2 : type_of% (
  And.intro (show ∀ (s1 : ByteArray) (b2 : Bool) (b3 : Bool) (b4 : Bool), litRow 65 4 1 [.string ByteArray.empty, .bool false, .bool false, .bool false] [(0, (.agg #[.string s1, .bool b2, .bool b3, .bool b4]))] = some (mkRow 65 1 [.string s1, .bool b2, .bool b3, .bool b4]) from by intros; kernel_rfl) <|
  And.intro (show ∀ (n1 : Int) (n2 : Int) (n3 : Int), evBuild kon.P 32 [(0, (.int .i64 n1)), (1, (.int .i64 n2)), (2, (.int .i64 n3))] = some (.agg #[.int .i64 n1, .int .i64 n2, .int .i64 n3, .int .i64 0]) from by intros; kernel_rfl) <|
  And.intro (show ∀ (n1 : Int) (n2 : Int) (a3 : Option Addr) (k4 : Nat) (k5 : Nat) (n6 : Int) (n7 : Int) (n8 : Int) (n9 : Int), evBuild kon.P 40 [(0, (.int .i64 n1)), (1, (.int .i64 n2)), (5, (.slice a3 k4 k5)), (6, (.agg #[.int .i64 n6, .int .i64 n7, .int .i64 n8, .int .i64 n9]))] = some (.agg #[.int .i64 n1, .int .i64 n2, .int .i64 0, .string ByteArray.empty, .bool false, .slice a3 k4 k5, .int .i64 n6, .int .i64 n7, .int .i64 n8, .int .i64 n9]) from by intros; kernel_rfl) <|
  And.intro (L_buildSlice (C := kon) (t := 46) (e := 9) (n := 1) (z := (.string ByteArray.empty)) (zs := [.string ByteArray.empty]) (len := 1) (by kernel_rfl) (by kernel_rfl) (by kernel_rfl) (by kernel_rfl) (by kernel_rfl) (by kernel_rfl)) <|
  And.intro (show ∀ (s1 : ByteArray), litRow 9 1 1 [.string ByteArray.empty] [(0, (.string s1))] = some (mkRow 9 1 [.string s1]) from by intros; kernel_rfl) <|
  And.intro (L_loadA (C := kon) (t := 60) (n := 7) (by kernel_rfl) (by kernel_rfl)) <|
  And.intro (L_buildSlice (C := kon) (t := 68) (e := 60) (n := 7) (z := (.agg #[.int .i64 0, .int .i64 0, .int .i64 0, .int .i64 0, .int .i64 0, .int .i64 0, .int .i64 0])) (zs := [.int .i64 0, .int .i64 0, .int .i64 0, .int .i64 0, .int .i64 0, .int .i64 0, .int .i64 0]) (len := 1) (by kernel_rfl) (by kernel_rfl) (by kernel_rfl) (by kernel_rfl) (by kernel_rfl) (by kernel_rfl)) <|
  And.intro (show ∀ (n1 : Int) (n2 : Int) (n3 : Int) (n4 : Int) (n5 : Int) (n6 : Int) (n7 : Int), litRow 60 7 1 [.int .i64 0, .int .i64 0, .int .i64 0, .int .i64 0, .int .i64 0, .int .i64 0, .int .i64 0] [(0, (.agg #[.int .i64 n1, .int .i64 n2, .int .i64 n3, .int .i64 n4, .int .i64 n5, .int .i64 n6, .int .i64 n7]))] = some (mkRow 60 1 [.int .i64 n1, .int .i64 n2, .int .i64 n3, .int .i64 n4, .int .i64 n5, .int .i64 n6, .int .i64 n7]) from by intros; kernel_rfl) <|
  And.intro (show ∀ (n1 : Int) (n2 : Int), evBuild kon.P 32 [(1, (.int .i64 n1)), (2, (.int .i64 n2))] = some (.agg #[.int .i64 0, .int .i64 n1, .int .i64 n2, .int .i64 0]) from by intros; kernel_rfl) <|
  And.intro (show ∀ (n1 : Int) (n2 : Int) (a3 : Option Addr) (k4 : Nat) (k5 : Nat) (n6 : Int) (n7 : Int) (n8 : Int) (n9 : Int), evBuild kon.P 34 [(0, (.int .i64 n1)), (1, (.int .i64 n2)), (5, (.slice a3 k4 k5)), (6, (.agg #[.int .i64 n6, .int .i64 n7, .int .i64 n8, .int .i64 n9]))] = some (.agg #[.int .i64 n1, .int .i64 n2, .int .i64 0, .string ByteArray.empty, .bool false, .slice a3 k4 k5, .int .i64 n6, .int .i64 n7, .int .i64 n8, .int .i64 n9]) from by intros; kernel_rfl) <|
  And.intro (L_bin (C := kon) (t := 4) (by kernel_rfl)) <|
  And.intro (show ∀ (x y : Operand) (a c : Bool), evBin kon.P .neq 4 x y (.bool a) (.bool c) = some (.bool (!(a == c))) from by intros; kernel_rfl) <|
  And.intro (show ∀ (x y : Operand) (a c : Bool), evBin kon.P .eql 4 x y (.bool a) (.bool c) = some (.bool (a == c)) from by intros; kernel_rfl) <|
  And.intro (L_len (C := kon) (t := 68) (by kernel_rfl)) <|
  And.intro (L_lenSl (C := kon) (t := 68) (e := 60) (by kernel_rfl)) <|
  And.intro (L_indexAddr (C := kon) (t := 68) (e := 60) (n := 7) (by kernel_rfl) (by kernel_rfl)) <|
  And.intro (show ∀ (b o : Nat), evFieldAddr kon.P 60 (.pointer (some ⟨b, o, none⟩)) 6 = some (.pointer (some ⟨b, o + 6, none⟩)) from by intros; kernel_rfl) <|
  And.intro (L_loadC (C := kon) (t := 3) (by kernel_rfl)) <|
  And.intro (show ∀ (b o : Nat), evFieldAddr kon.P 60 (.pointer (some ⟨b, o, none⟩)) 5 = some (.pointer (some ⟨b, o + 5, none⟩)) from by intros; kernel_rfl) <|
  And.intro (show ∀ (b o : Nat), evFieldAddr kon.P 60 (.pointer (some ⟨b, o, none⟩)) 1 = some (.pointer (some ⟨b, o + 1, none⟩)) from by intros; kernel_rfl) <|
  And.intro (L_buildSlice (C := kon) (t := 77) (e := 3) (n := 1) (z := (.int .i64 0)) (zs := [.int .i64 0]) (len := 1) (by kernel_rfl) (by kernel_rfl) (by kernel_rfl) (by kernel_rfl) (by kernel_rfl) (by kernel_rfl)) <|
  And.intro (show ∀ (n1 : Int), litRow 3 1 1 [.int .i64 0] [(0, (.int .i64 n1))] = some (mkRow 3 1 [.int .i64 n1]) from by intros; kernel_rfl) <|
  And.intro (L_append (C := kon) (t := 77) (u := 77) (e := 3) (by kernel_rfl)) <|
  And.intro (L_len (C := kon) (t := 77) (by kernel_rfl)) <|
  And.intro (L_lenSl (C := kon) (t := 77) (e := 3) (by kernel_rfl)) <|
  And.intro (L_indexAddr (C := kon) (t := 77) (e := 3) (n := 1) (by kernel_rfl) (by kernel_rfl)) <|
  And.intro (L_buildSlice (C := kon) (t := 46) (e := 9) (n := 1) (z := (.string ByteArray.empty)) (zs := [.string ByteArray.empty]) (len := 2) (by kernel_rfl) (by kernel_rfl) (by kernel_rfl) (by kernel_rfl) (by kernel_rfl) (by kernel_rfl)) <|
  And.intro (show ∀ (s1 : ByteArray) (s2 : ByteArray), litRow 9 1 2 [.string ByteArray.empty] [(0, (.string s1)), (1, (.string s2))] = some (mkRow 9 2 [.string s1, .string s2]) from by intros; kernel_rfl) <|
  And.intro (L_convInt (C := kon) (s := 5) (t := 3) (k := .i64) (by kernel_rfl) (by kernel_rfl)) <|
  And.intro (show ∀ (n : Int), prunS kon.P (convert 5 3 (.int .u8 n)) = some (.int .i64 (IntKind.i64.wrap n)) from by intros; kernel_rfl) <|
  And.intro (L_sliceSl (C := kon) (t := 68) (e := 60) (n := 7) (by kernel_rfl) (by kernel_rfl)) <|
  And.intro (L_len (C := kon) (t := 81) (by kernel_rfl)) <|
  And.intro (L_lenSl (C := kon) (t := 81) (e := 83) (by kernel_rfl)) <|
  And.intro (L_indexAddr (C := kon) (t := 81) (e := 83) (n := 2) (by kernel_rfl) (by kernel_rfl)) <|
  And.intro (show ∀ (b o : Nat), evFieldAddr kon.P 83 (.pointer (some ⟨b, o, none⟩)) 1 = some (.pointer (some ⟨b, o + 1, none⟩)) from by intros; kernel_rfl) <|
  And.intro (L_sliceSl (C := kon) (t := 81) (e := 83) (n := 2) (by kernel_rfl) (by kernel_rfl)) <|
  And.intro (show ∀ (b o : Nat), evFieldAddr kon.P 40 (.pointer (some ⟨b, o, none⟩)) 0 = some (.pointer (some ⟨b, o + 0, none⟩)) from by intros; kernel_rfl) <|
  And.intro (show ∀ (n1 : Int), evBuild kon.P 40 [(0, (.int .i64 n1))] = some (.agg #[.int .i64 n1, .int .i64 0, .int .i64 0, .string ByteArray.empty, .bool false, .slice none 0 0, .int .i64 0, .int .i64 0, .int .i64 0, .int .i64 0]) from by intros; kernel_rfl) <|
  And.intro (show ∀ (b o : Nat), evFieldAddr kon.P 36 (.pointer (some ⟨b, o, none⟩)) 2 = some (.pointer (some ⟨b, o + 2, none⟩)) from by intros; kernel_rfl) <|
  (show ∀ (b o : Nat), evFieldAddr kon.P 36 (.pointer (some ⟨b, o, none⟩)) 3 = some (.pointer (some ⟨b, o + 3, none⟩)) from by intros; kernel_rfl)) :=
  And.intro (show ∀ (s1 : ByteArray) (b2 : Bool) (b3 : Bool) (b4 : Bool), litRow 65 4 1 [.string ByteArray.empty, .bool false, .bool false, .bool false] [(0, (.agg #[.string s1, .bool b2, .bool b3, .bool b4]))] = some (mkRow 65 1 [.string s1, .bool b2, .bool b3, .bool b4]) from by intros; kernel_rfl) <|
  And.intro (show ∀ (n1 : Int) (n2 : Int) (n3 : Int), evBuild kon.P 32 [(0, (.int .i64 n1)), (1, (.int .i64 n2)), (2, (.int .i64 n3))] = some (.agg #[.int .i64 n1, .int .i64 n2, .int .i64 n3, .int .i64 0]) from by intros; kernel_rfl) <|
  And.intro (show ∀ (n1 : Int) (n2 : Int) (a3 : Option Addr) (k4 : Nat) (k5 : Nat) (n6 : Int) (n7 : Int) (n8 : Int) (n9 : Int), evBuild kon.P 40 [(0, (.int .i64 n1)), (1, (.int .i64 n2)), (5, (.slice a3 k4 k5)), (6, (.agg #[.int .i64 n6, .int .i64 n7, .int .i64 n8, .int .i64 n9]))] = some (.agg #[.int .i64 n1, .int .i64 n2, .int .i64 0, .string ByteArray.empty, .bool false, .slice a3 k4 k5, .int .i64 n6, .int .i64 n7, .int .i64 n8, .int .i64 n9]) from by intros; kernel_rfl) <|
  And.intro (L_buildSlice (C := kon) (t := 46) (e := 9) (n := 1) (z := (.string ByteArray.empty)) (zs := [.string ByteArray.empty]) (len := 1) (by kernel_rfl) (by kernel_rfl) (by kernel_rfl) (by kernel_rfl) (by kernel_rfl) (by kernel_rfl)) <|
  And.intro (show ∀ (s1 : ByteArray), litRow 9 1 1 [.string ByteArray.empty] [(0, (.string s1))] = some (mkRow 9 1 [.string s1]) from by intros; kernel_rfl) <|
  And.intro (L_loadA (C := kon) (t := 60) (n := 7) (by kernel_rfl) (by kernel_rfl)) <|
  And.intro (L_buildSlice (C := kon) (t := 68) (e := 60) (n := 7) (z := (.agg #[.int .i64 0, .int .i64 0, .int .i64 0, .int .i64 0, .int .i64 0, .int .i64 0, .int .i64 0])) (zs := [.int .i64 0, .int .i64 0, .int .i64 0, .int .i64 0, .int .i64 0, .int .i64 0, .int .i64 0]) (len := 1) (by kernel_rfl) (by kernel_rfl) (by kernel_rfl) (by kernel_rfl) (by kernel_rfl) (by kernel_rfl)) <|
  And.intro (show ∀ (n1 : Int) (n2 : Int) (n3 : Int) (n4 : Int) (n5 : Int) (n6 : Int) (n7 : Int), litRow 60 7 1 [.int .i64 0, .int .i64 0, .int .i64 0, .int .i64 0, .int .i64 0, .int .i64 0, .int .i64 0] [(0, (.agg #[.int .i64 n1, .int .i64 n2, .int .i64 n3, .int .i64 n4, .int .i64 n5, .int .i64 n6, .int .i64 n7]))] = some (mkRow 60 1 [.int .i64 n1, .int .i64 n2, .int .i64 n3, .int .i64 n4, .int .i64 n5, .int .i64 n6, .int .i64 n7]) from by intros; kernel_rfl) <|
  And.intro (show ∀ (n1 : Int) (n2 : Int), evBuild kon.P 32 [(1, (.int .i64 n1)), (2, (.int .i64 n2))] = some (.agg #[.int .i64 0, .int .i64 n1, .int .i64 n2, .int .i64 0]) from by intros; kernel_rfl) <|
  And.intro (show ∀ (n1 : Int) (n2 : Int) (a3 : Option Addr) (k4 : Nat) (k5 : Nat) (n6 : Int) (n7 : Int) (n8 : Int) (n9 : Int), evBuild kon.P 34 [(0, (.int .i64 n1)), (1, (.int .i64 n2)), (5, (.slice a3 k4 k5)), (6, (.agg #[.int .i64 n6, .int .i64 n7, .int .i64 n8, .int .i64 n9]))] = some (.agg #[.int .i64 n1, .int .i64 n2, .int .i64 0, .string ByteArray.empty, .bool false, .slice a3 k4 k5, .int .i64 n6, .int .i64 n7, .int .i64 n8, .int .i64 n9]) from by intros; kernel_rfl) <|
  And.intro (L_bin (C := kon) (t := 4) (by kernel_rfl)) <|
  And.intro (show ∀ (x y : Operand) (a c : Bool), evBin kon.P .neq 4 x y (.bool a) (.bool c) = some (.bool (!(a == c))) from by intros; kernel_rfl) <|
  And.intro (show ∀ (x y : Operand) (a c : Bool), evBin kon.P .eql 4 x y (.bool a) (.bool c) = some (.bool (a == c)) from by intros; kernel_rfl) <|
  And.intro (L_len (C := kon) (t := 68) (by kernel_rfl)) <|
  And.intro (L_lenSl (C := kon) (t := 68) (e := 60) (by kernel_rfl)) <|
  And.intro (L_indexAddr (C := kon) (t := 68) (e := 60) (n := 7) (by kernel_rfl) (by kernel_rfl)) <|
  And.intro (show ∀ (b o : Nat), evFieldAddr kon.P 60 (.pointer (some ⟨b, o, none⟩)) 6 = some (.pointer (some ⟨b, o + 6, none⟩)) from by intros; kernel_rfl) <|
  And.intro (L_loadC (C := kon) (t := 3) (by kernel_rfl)) <|
  And.intro (show ∀ (b o : Nat), evFieldAddr kon.P 60 (.pointer (some ⟨b, o, none⟩)) 5 = some (.pointer (some ⟨b, o + 5, none⟩)) from by intros; kernel_rfl) <|
  And.intro (show ∀ (b o : Nat), evFieldAddr kon.P 60 (.pointer (some ⟨b, o, none⟩)) 1 = some (.pointer (some ⟨b, o + 1, none⟩)) from by intros; kernel_rfl) <|
  And.intro (L_buildSlice (C := kon) (t := 77) (e := 3) (n := 1) (z := (.int .i64 0)) (zs := [.int .i64 0]) (len := 1) (by kernel_rfl) (by kernel_rfl) (by kernel_rfl) (by kernel_rfl) (by kernel_rfl) (by kernel_rfl)) <|
  And.intro (show ∀ (n1 : Int), litRow 3 1 1 [.int .i64 0] [(0, (.int .i64 n1))] = some (mkRow 3 1 [.int .i64 n1]) from by intros; kernel_rfl) <|
  And.intro (L_append (C := kon) (t := 77) (u := 77) (e := 3) (by kernel_rfl)) <|
  And.intro (L_len (C := kon) (t := 77) (by kernel_rfl)) <|
  And.intro (L_lenSl (C := kon) (t := 77) (e := 3) (by kernel_rfl)) <|
  And.intro (L_indexAddr (C := kon) (t := 77) (e := 3) (n := 1) (by kernel_rfl) (by kernel_rfl)) <|
  And.intro (L_buildSlice (C := kon) (t := 46) (e := 9) (n := 1) (z := (.string ByteArray.empty)) (zs := [.string ByteArray.empty]) (len := 2) (by kernel_rfl) (by kernel_rfl) (by kernel_rfl) (by kernel_rfl) (by kernel_rfl) (by kernel_rfl)) <|
  And.intro (show ∀ (s1 : ByteArray) (s2 : ByteArray), litRow 9 1 2 [.string ByteArray.empty] [(0, (.string s1)), (1, (.string s2))] = some (mkRow 9 2 [.string s1, .string s2]) from by intros; kernel_rfl) <|
  And.intro (L_convInt (C := kon) (s := 5) (t := 3) (k := .i64) (by kernel_rfl) (by kernel_rfl)) <|
  And.intro (show ∀ (n : Int), prunS kon.P (convert 5 3 (.int .u8 n)) = some (.int .i64 (IntKind.i64.wrap n)) from by intros; kernel_rfl) <|
  And.intro (L_sliceSl (C := kon) (t := 68) (e := 60) (n := 7) (by kernel_rfl) (by kernel_rfl)) <|
  And.intro (L_len (C := kon) (t := 81) (by kernel_rfl)) <|
  And.intro (L_lenSl (C := kon) (t := 81) (e := 83) (by kernel_rfl)) <|
  And.intro (L_indexAddr (C := kon) (t := 81) (e := 83) (n := 2) (by kernel_rfl) (by kernel_rfl)) <|
  And.intro (show ∀ (b o : Nat), evFieldAddr kon.P 83 (.pointer (some ⟨b, o, none⟩)) 1 = some (.pointer (some ⟨b, o + 1, none⟩)) from by intros; kernel_rfl) <|
  And.intro (L_sliceSl (C := kon) (t := 81) (e := 83) (n := 2) (by kernel_rfl) (by kernel_rfl)) <|
  And.intro (show ∀ (b o : Nat), evFieldAddr kon.P 40 (.pointer (some ⟨b, o, none⟩)) 0 = some (.pointer (some ⟨b, o + 0, none⟩)) from by intros; kernel_rfl) <|
  And.intro (show ∀ (n1 : Int), evBuild kon.P 40 [(0, (.int .i64 n1))] = some (.agg #[.int .i64 n1, .int .i64 0, .int .i64 0, .string ByteArray.empty, .bool false, .slice none 0 0, .int .i64 0, .int .i64 0, .int .i64 0, .int .i64 0]) from by intros; kernel_rfl) <|
  And.intro (show ∀ (b o : Nat), evFieldAddr kon.P 36 (.pointer (some ⟨b, o, none⟩)) 2 = some (.pointer (some ⟨b, o + 2, none⟩)) from by intros; kernel_rfl) <|
  (show ∀ (b o : Nat), evFieldAddr kon.P 36 (.pointer (some ⟨b, o, none⟩)) 3 = some (.pointer (some ⟨b, o + 3, none⟩)) from by intros; kernel_rfl)
theorem typ3 : type_of% (
  And.intro (show ∀ (b o : Nat), evFieldAddr kon.P 36 (.pointer (some ⟨b, o, none⟩)) 4 = some (.pointer (some ⟨b, o + 4, none⟩)) from by intros; kernel_rfl) <|
  And.intro (show ∀ (b o : Nat), evFieldAddr kon.P 34 (.pointer (some ⟨b, o, none⟩)) 3 = some (.pointer (some ⟨b, o + 3, none⟩)) from by intros; kernel_rfl) <|
  And.intro (show ∀ (b o : Nat), evFieldAddr kon.P 34 (.pointer (some ⟨b, o, none⟩)) 5 = some (.pointer (some ⟨b, o + 5, none⟩)) from by intros; kernel_rfl) <|
  And.intro (L_loadC (C := kon) (t := 30) (by kernel_rfl)) <|
  And.intro (L_len (C := kon) (t := 30) (by kernel_rfl)) <|
  And.intro (L_lenSl (C := kon) (t := 30) (e := 65) (by kernel_rfl)) <|
  And.intro (L_makeMap (C := kon) (t := 88) (kt := 149) (et := 106) (by kernel_rfl)) <|
  And.intro (L_makeMap (C := kon) (t := 89) (kt := 3) (et := 3) (by kernel_rfl)) <|
  And.intro (L_makeMap (C := kon) (t := 90) (kt := 3) (et := 106) (by kernel_rfl)) <|
  And.intro (show ∀ (m1 : Option Nat) (m2 : Option Nat) (m3 : Option Nat), evBuild kon.P 92 [(0, (.map m1)), (1, (.map m2)), (2, (.map m3))] = some (.agg #[.map m1, .map m2, .map m3, .int .i64 0]) from by intros; kernel_rfl) <|
  And.intro (L_buildSlice (C := kon) (t := 93) (e := 4) (n := 1) (z := (.bool false)) (zs := [.bool false]) (len := 1) (by kernel_rfl) (by kernel_rfl) (by kernel_rfl) (by kernel_rfl) (by kernel_rfl) (by kernel_rfl)) <|
  And.intro (show ∀ (b1 : Bool), litRow 4 1 1 [.bool false] [(0, (.bool b1))] = some (mkRow 4 1 [.bool b1]) from by intros; kernel_rfl) <|
  And.intro (show ∀ (a1 : Option Addr) (k2 : Nat) (k3 : Nat), evBuild kon.P 97 [(2, (.slice a1 k2 k3))] = some (.agg #[.slice none 0 0, .slice none 0 0, .slice a1 k2 k3]) from by intros; kernel_rfl) <|
  And.intro (show ∀ (b o : Nat), evFieldAddr kon.P 36 (.pointer (some ⟨b, o, none⟩)) 0 = some (.pointer (some ⟨b, o + 0, none⟩)) from by intros; kernel_rfl) <|
  And.intro (show ∀ (b o : Nat), evFieldAddr kon.P 36 (.pointer (some ⟨b, o, none⟩)) 1 = some (.pointer (some ⟨b, o + 1, none⟩)) from by intros; kernel_rfl) <|
  And.intro (show ∀ (b o : Nat), evFieldAddr kon.P 34 (.pointer (some ⟨b, o, none⟩)) 6 = some (.pointer (some ⟨b, o + 6, none⟩)) from by intros; kernel_rfl) <|
  And.intro (L_cmp (C := kon) (t := 106) (by kernel_rfl) (op := .neq) rfl) <|
  And.intro (L_cmpN (C := kon) (t := 106) (by kernel_rfl)) <|
  And.intro (show ∀ (x y : Operand) (h : Hp) (p i : Nat), cmpV kon.P .neq 106 x y h (.pointer (some ⟨p, i, none⟩)) (.pointer (none)) = some (.bool true) from by intros; kernel_rfl) <|
  And.intro (show ∀ (x y : Operand) (h : Hp) (p i : Nat), cmpV kon.P .neq 106 x y h (.pointer (none)) (.pointer (some ⟨p, i, none⟩)) = some (.bool true) from by intros; kernel_rfl) <|
  And.intro (show ∀ (x y : Operand) (h : Hp), cmpV kon.P .neq 106 x y h (.pointer (none)) (.pointer (none)) = some (.bool false) from by intros; kernel_rfl) <|
  And.intro (show ∀ (n1 : Int) (n2 : Int) (n3 : Int) (s4 : ByteArray) (b5 : Bool) (a6 : Option Addr) (k7 : Nat) (k8 : Nat) (n9 : Int) (n10 : Int) (n11 : Int) (n12 : Int) (n13 : Int), evBuild kon.P 110 [(0, (.agg #[.int .i64 n1, .int .i64 n2, .int .i64 n3, .string s4, .bool b5, .slice a6 k7 k8, .int .i64 n9, .int .i64 n10, .int .i64 n11, .int .i64 n12])), (1, (.int .i64 n13))] = some (.agg #[.int .i64 n1, .int .i64 n2, .int .i64 n3, .string s4, .bool b5, .slice a6 k7 k8, .int .i64 n9, .int .i64 n10, .int .i64 n11, .int .i64 n12, .int .i64 n13, .int .i64 0]) from by intros; kernel_rfl) <|
  And.intro (show ∀ (b o : Nat), evFieldAddr kon.P 92 (.pointer (some ⟨b, o, none⟩)) 2 = some (.pointer (some ⟨b, o + 2, none⟩)) from by intros; kernel_rfl) <|
  And.intro (L_loadC (C := kon) (t := 90) (by kernel_rfl)) <|
  And.intro (show ∀ (b o : Nat), evFieldAddr kon.P 40 (.pointer (some ⟨b, o, none⟩)) 1 = some (.pointer (some ⟨b, o + 1, none⟩)) from by intros; kernel_rfl) <|
  And.intro (show ∀ (b o : Nat), evFieldAddr kon.P 92 (.pointer (some ⟨b, o, none⟩)) 3 = some (.pointer (some ⟨b, o + 3, none⟩)) from by intros; kernel_rfl) <|
  And.intro (show ∀ (b o : Nat), evFieldAddr kon.P 92 (.pointer (some ⟨b, o, none⟩)) 1 = some (.pointer (some ⟨b, o + 1, none⟩)) from by intros; kernel_rfl) <|
  And.intro (L_loadC (C := kon) (t := 89) (by kernel_rfl)) <|
  And.intro (show ∀ (b o : Nat), evFieldAddr kon.P 40 (.pointer (some ⟨b, o, none⟩)) 2 = some (.pointer (some ⟨b, o + 2, none⟩)) from by intros; kernel_rfl) <|
  And.intro (show evBuild kon.P 40 [] = some (.agg #[.int .i64 0, .int .i64 0, .int .i64 0, .string ByteArray.empty, .bool false, .slice none 0 0, .int .i64 0, .int .i64 0, .int .i64 0, .int .i64 0]) from by intros; kernel_rfl) <|
  And.intro (show ∀ (b o : Nat), evFieldAddr kon.P 34 (.pointer (some ⟨b, o, none⟩)) 0 = some (.pointer (some ⟨b, o + 0, none⟩)) from by intros; kernel_rfl) <|
  And.intro (show ∀ (b o : Nat), evFieldAddr kon.P 34 (.pointer (some ⟨b, o, none⟩)) 1 = some (.pointer (some ⟨b, o + 1, none⟩)) from by intros; kernel_rfl) <|
  And.intro (show ∀ (b o : Nat), evFieldAddr kon.P 34 (.pointer (some ⟨b, o, none⟩)) 2 = some (.pointer (some ⟨b, o + 2, none⟩)) from by intros; kernel_rfl) <|
  And.intro (show ∀ (b o : Nat), evFieldAddr kon.P 34 (.pointer (some ⟨b, o, none⟩)) 4 = some (.pointer (some ⟨b, o + 4, none⟩)) from by intros; kernel_rfl) <|
  And.intro (L_loadC (C := kon) (t := 4) (by kernel_rfl)) <|
  And.intro (L_bin (C := kon) (t := 32) (by kernel_rfl)) <|
  And.intro (L_indexAddr (C := kon) (t := 30) (e := 65) (n := 4) (by kernel_rfl) (by kernel_rfl)) <|
  And.intro (L_loadA (C := kon) (t := 65) (n := 4) (by kernel_rfl) (by kernel_rfl)) <|
  And.intro (L_bin (C := kon) (t := 65) (by kernel_rfl)) <|
  (show ∀ (b o : Nat), evFieldAddr kon.P 40 (.pointer (some ⟨b, o, none⟩)) 3 = some (.pointer (some ⟨b, o + 3, none⟩)) from by intros; kernel_rfl)) :=
  And.intro (show ∀ (b o : Nat), evFieldAddr kon.P 36 (.pointer (some ⟨b, o, none⟩)) 4 = some (.pointer (some ⟨b, o + 4, none⟩)) from by intros; kernel_rfl) <|
  And.intro (show ∀ (b o : Nat), evFieldAddr kon.P 34 (.pointer (some ⟨b, o, none⟩)) 3 = some (.pointer (some ⟨b, o + 3, none⟩)) from by intros; kernel_rfl) <|
  And.intro (show ∀ (b o : Nat), evFieldAddr kon.P 34 (.pointer (some ⟨b, o, none⟩)) 5 = some (.pointer (some ⟨b, o + 5, none⟩)) from by intros; kernel_rfl) <|
  And.intro (L_loadC (C := kon) (t := 30) (by kernel_rfl)) <|
  And.intro (L_len (C := kon) (t := 30) (by kernel_rfl)) <|
  And.intro (L_lenSl (C := kon) (t := 30) (e := 65) (by kernel_rfl)) <|
  And.intro (L_makeMap (C := kon) (t := 88) (kt := 149) (et := 106) (by kernel_rfl)) <|
  And.intro (L_makeMap (C := kon) (t := 89) (kt := 3) (et := 3) (by kernel_rfl)) <|
  And.intro (L_makeMap (C := kon) (t := 90) (kt := 3) (et := 106) (by kernel_rfl)) <|
  And.intro (show ∀ (m1 : Option Nat) (m2 : Option Nat) (m3 : Option Nat), evBuild kon.P 92 [(0, (.map m1)), (1, (.map m2)), (2, (.map m3))] = some (.agg #[.map m1, .map m2, .map m3, .int .i64 0]) from by intros; kernel_rfl) <|
  And.intro (L_buildSlice (C := kon) (t := 93) (e := 4) (n := 1) (z := (.bool false)) (zs := [.bool false]) (len := 1) (by kernel_rfl) (by kernel_rfl) (by kernel_rfl) (by kernel_rfl) (by kernel_rfl) (by kernel_rfl)) <|
  And.intro (show ∀ (b1 : Bool), litRow 4 1 1 [.bool false] [(0, (.bool b1))] = some (mkRow 4 1 [.bool b1]) from by intros; kernel_rfl) <|
  And.intro (show ∀ (a1 : Option Addr) (k2 : Nat) (k3 : Nat), evBuild kon.P 97 [(2, (.slice a1 k2 k3))] = some (.agg #[.slice none 0 0, .slice none 0 0, .slice a1 k2 k3]) from by intros; kernel_rfl) <|
  And.intro (show ∀ (b o : Nat), evFieldAddr kon.P 36 (.pointer (some ⟨b, o, none⟩)) 0 = some (.pointer (some ⟨b, o + 0, none⟩)) from by intros; kernel_rfl) <|
  And.intro (show ∀ (b o : Nat), evFieldAddr kon.P 36 (.pointer (some ⟨b, o, none⟩)) 1 = some (.pointer (some ⟨b, o + 1, none⟩)) from by intros; kernel_rfl) <|
  And.intro (show ∀ (b o : Nat), evFieldAddr kon.P 34 (.pointer (some ⟨b, o, none⟩)) 6 = some (.pointer (some ⟨b, o + 6, none⟩)) from by intros; kernel_rfl) <|
  And.intro (L_cmp (C := kon) (t := 106) (by kernel_rfl) (op := .neq) rfl) <|
  And.intro (L_cmpN (C := kon) (t := 106) (by kernel_rfl)) <|
  And.intro (show ∀ (x y : Operand) (h : Hp) (p i : Nat), cmpV kon.P .neq 106 x y h (.pointer (some ⟨p, i, none⟩)) (.pointer (none)) = some (.bool true) from by intros; kernel_rfl) <|
  And.intro (show ∀ (x y : Operand) (h : Hp) (p i : Nat), cmpV kon.P .neq 106 x y h (.pointer (none)) (.pointer (some ⟨p, i, none⟩)) = some (.bool true) from by intros; kernel_rfl) <|
  And.intro (show ∀ (x y : Operand) (h : Hp), cmpV kon.P .neq 106 x y h (.pointer (none)) (.pointer (none)) = some (.bool false) from by intros; kernel_rfl) <|
  And.intro (show ∀ (n1 : Int) (n2 : Int) (n3 : Int) (s4 : ByteArray) (b5 : Bool) (a6 : Option Addr) (k7 : Nat) (k8 : Nat) (n9 : Int) (n10 : Int) (n11 : Int) (n12 : Int) (n13 : Int), evBuild kon.P 110 [(0, (.agg #[.int .i64 n1, .int .i64 n2, .int .i64 n3, .string s4, .bool b5, .slice a6 k7 k8, .int .i64 n9, .int .i64 n10, .int .i64 n11, .int .i64 n12])), (1, (.int .i64 n13))] = some (.agg #[.int .i64 n1, .int .i64 n2, .int .i64 n3, .string s4, .bool b5, .slice a6 k7 k8, .int .i64 n9, .int .i64 n10, .int .i64 n11, .int .i64 n12, .int .i64 n13, .int .i64 0]) from by intros; kernel_rfl) <|
  And.intro (show ∀ (b o : Nat), evFieldAddr kon.P 92 (.pointer (some ⟨b, o, none⟩)) 2 = some (.pointer (some ⟨b, o + 2, none⟩)) from by intros; kernel_rfl) <|
  And.intro (L_loadC (C := kon) (t := 90) (by kernel_rfl)) <|
  And.intro (show ∀ (b o : Nat), evFieldAddr kon.P 40 (.pointer (some ⟨b, o, none⟩)) 1 = some (.pointer (some ⟨b, o + 1, none⟩)) from by intros; kernel_rfl) <|
  And.intro (show ∀ (b o : Nat), evFieldAddr kon.P 92 (.pointer (some ⟨b, o, none⟩)) 3 = some (.pointer (some ⟨b, o + 3, none⟩)) from by intros; kernel_rfl) <|
  And.intro (show ∀ (b o : Nat), evFieldAddr kon.P 92 (.pointer (some ⟨b, o, none⟩)) 1 = some (.pointer (some ⟨b, o + 1, none⟩)) from by intros; kernel_rfl) <|
  And.intro (L_loadC (C := kon) (t := 89) (by kernel_rfl)) <|
  And.intro (show ∀ (b o : Nat), evFieldAddr kon.P 40 (.pointer (some ⟨b, o, none⟩)) 2 = some (.pointer (some ⟨b, o + 2, none⟩)) from by intros; kernel_rfl) <|
  And.intro (show evBuild kon.P 40 [] = some (.agg #[.int .i64 0, .int .i64 0, .int .i64 0, .string ByteArray.empty, .bool false, .slice none 0 0, .int .i64 0, .int .i64 0, .int .i64 0, .int .i64 0]) from by intros; kernel_rfl) <|
  And.intro (show ∀ (b o : Nat), evFieldAddr kon.P 34 (.pointer (some ⟨b, o, none⟩)) 0 = some (.pointer (some ⟨b, o + 0, none⟩)) from by intros; kernel_rfl) <|
  And.intro (show ∀ (b o : Nat), evFieldAddr kon.P 34 (.pointer (some ⟨b, o, none⟩)) 1 = some (.pointer (some ⟨b, o + 1, none⟩)) from by intros; kernel_rfl) <|
  And.intro (show ∀ (b o : Nat), evFieldAddr kon.P 34 (.pointer (some ⟨b, o, none⟩)) 2 = some (.pointer (some ⟨b, o + 2, none⟩)) from by intros; kernel_rfl) <|
  And.intro (show ∀ (b o : Nat), evFieldAddr kon.P 34 (.pointer (some ⟨b, o, none⟩)) 4 = some (.pointer (some ⟨b, o + 4, none⟩)) from by intros; kernel_rfl) <|
  And.intro (L_loadC (C := kon) (t := 4) (by kernel_rfl)) <|
  And.intro (L_bin (C := kon) (t := 32) (by kernel_rfl)) <|
  And.intro (L_indexAddr (C := kon) (t := 30) (e := 65) (n := 4) (by kernel_rfl) (by kernel_rfl)) <|
  And.intro (L_loadA (C := kon) (t := 65) (n := 4) (by kernel_rfl) (by kernel_rfl)) <|
  And.intro (L_bin (C := kon) (t := 65) (by kernel_rfl)) <|
  (show ∀ (b o : Nat), evFieldAddr kon.P 40 (.pointer (some ⟨b, o, none⟩)) 3 = some (.pointer (some ⟨b, o + 3, none⟩)) from by intros; kernel_rfl)
theorem typ4 : type_of% (
  And.intro (show ∀ (b o : Nat), evFieldAddr kon.P 40 (.pointer (some ⟨b, o, none⟩)) 4 = some (.pointer (some ⟨b, o + 4, none⟩)) from by intros; kernel_rfl) <|
  And.intro (show ∀ (b o : Nat), evFieldAddr kon.P 40 (.pointer (some ⟨b, o, none⟩)) 5 = some (.pointer (some ⟨b, o + 5, none⟩)) from by intros; kernel_rfl) <|
  And.intro (show ∀ (b o : Nat), evFieldAddr kon.P 40 (.pointer (some ⟨b, o, none⟩)) 6 = some (.pointer (some ⟨b, o + 6, none⟩)) from by intros; kernel_rfl) <|
  And.intro (show ∀ (n1 : Int) (n2 : Int) (n3 : Int) (s4 : ByteArray) (b5 : Bool) (a6 : Option Addr) (k7 : Nat) (k8 : Nat) (n9 : Int) (n10 : Int) (n11 : Int) (n12 : Int), evBuild kon.P 34 [(0, (.int .i64 n1)), (1, (.int .i64 n2)), (2, (.int .i64 n3)), (3, (.string s4)), (4, (.bool b5)), (5, (.slice a6 k7 k8)), (6, (.agg #[.int .i64 n9, .int .i64 n10, .int .i64 n11, .int .i64 n12]))] = some (.agg #[.int .i64 n1, .int .i64 n2, .int .i64 n3, .string s4, .bool b5, .slice a6 k7 k8, .int .i64 n9, .int .i64 n10, .int .i64 n11, .int .i64 n12]) from by intros; kernel_rfl) <|
  And.intro (show ∀ (a1 : Option Addr), evBuild kon.P 118 [(0, (.pointer a1))] = some (.agg #[.pointer a1, .int .i64 0]) from by intros; kernel_rfl) <|
  And.intro (show ∀ (b o : Nat), evFieldAddr kon.P 120 (.pointer (some ⟨b, o, none⟩)) 2 = some (.pointer (some ⟨b, o + 2, none⟩)) from by intros; kernel_rfl) <|
  And.intro (L_loadC (C := kon) (t := 46) (by kernel_rfl)) <|
  And.intro (L_sliceSl (C := kon) (t := 46) (e := 9) (n := 1) (by kernel_rfl) (by kernel_rfl)) <|
  And.intro (L_store (C := kon) (t := 46) (n := 1) (by kernel_rfl)) <|
  And.intro (show ∀ (a1 : Option Addr) (n2 : Int) (a3 : Option Addr) (k4 : Nat) (k5 : Nat), evBuild kon.P 120 [(0, (.pointer a1)), (1, (.int .i64 n2)), (2, (.slice a3 k4 k5))] = some (.agg #[.pointer a1, .int .i64 n2, .slice a3 k4 k5, .int .i64 0]) from by intros; kernel_rfl) <|
  And.intro (show ∀ (b1 : Bool), evBuild kon.P 62 [(0, (.bool b1))] = some (.agg #[.bool b1, .bool false, .bool false]) from by intros; kernel_rfl) <|
  And.intro (show ∀ (n1 : Int) (n2 : Int) (n3 : Int) (n4 : Int) (n5 : Int), evBuild kon.P 60 [(1, (.int .i64 n1)), (2, (.int .i64 n2)), (4, (.int .i64 n3)), (5, (.int .i64 n4)), (6, (.int .i64 n5))] = some (.agg #[.int .i64 0, .int .i64 n1, .int .i64 n2, .int .i64 0, .int .i64 n3, .int .i64 n4, .int .i64 n5]) from by intros; kernel_rfl) <|
  And.intro (show ∀ (n1 : Int) (n2 : Int) (n3 : Int), evBuild kon.P 60 [(1, (.int .i64 n1)), (5, (.int .i64 n2)), (6, (.int .i64 n3))] = some (.agg #[.int .i64 0, .int .i64 n1, .int .i64 0, .int .i64 0, .int .i64 0, .int .i64 n2, .int .i64 n3]) from by intros; kernel_rfl) <|
  And.intro (show ∀ (b o : Nat), evFieldAddr kon.P 32 (.pointer (some ⟨b, o, none⟩)) 0 = some (.pointer (some ⟨b, o + 0, none⟩)) from by intros; kernel_rfl) <|
  And.intro (show ∀ (b o : Nat), evFieldAddr kon.P 32 (.pointer (some ⟨b, o, none⟩)) 1 = some (.pointer (some ⟨b, o + 1, none⟩)) from by intros; kernel_rfl) <|
  And.intro (show ∀ (b o : Nat), evFieldAddr kon.P 32 (.pointer (some ⟨b, o, none⟩)) 2 = some (.pointer (some ⟨b, o + 2, none⟩)) from by intros; kernel_rfl) <|
  And.intro (show ∀ (b o : Nat), evFieldAddr kon.P 32 (.pointer (some ⟨b, o, none⟩)) 3 = some (.pointer (some ⟨b, o + 3, none⟩)) from by intros; kernel_rfl) <|
  And.intro (L_loadC (C := kon) (t := 25) (by kernel_rfl)) <|
  And.intro (show ∀ (n1 : Int), evBuild kon.P 34 [(0, (.int .i64 n1))] = some (.agg #[.int .i64 n1, .int .i64 0, .int .i64 0, .string ByteArray.empty, .bool false, .slice none 0 0, .int .i64 0, .int .i64 0, .int .i64 0, .int .i64 0]) from by intros; kernel_rfl) <|
  And.intro (L_append (C := kon) (t := 30) (u := 30) (e := 65) (by kernel_rfl)) <|
  And.intro (show ∀ (n1 : Int) (n2 : Int) (b3 : Bool) (a4 : Option Addr) (k5 : Nat) (k6 : Nat) (n7 : Int) (n8 : Int) (n9 : Int) (n10 : Int), evBuild kon.P 34 [(0, (.int .i64 n1)), (1, (.int .i64 n2)), (4, (.bool b3)), (5, (.slice a4 k5 k6)), (6, (.agg #[.int .i64 n7, .int .i64 n8, .int .i64 n9, .int .i64 n10]))] = some (.agg #[.int .i64 n1, .int .i64 n2, .int .i64 0, .string ByteArray.empty, .bool b3, .slice a4 k5 k6, .int .i64 n7, .int .i64 n8, .int .i64 n9, .int .i64 n10]) from by intros; kernel_rfl) <|
  And.intro (show ∀ (b o : Nat), evFieldAddr kon.P 97 (.pointer (some ⟨b, o, none⟩)) 2 = some (.pointer (some ⟨b, o + 2, none⟩)) from by intros; kernel_rfl) <|
  And.intro (L_loadC (C := kon) (t := 93) (by kernel_rfl)) <|
  And.intro (L_append (C := kon) (t := 93) (u := 93) (e := 4) (by kernel_rfl)) <|
  And.intro (L_store (C := kon) (t := 93) (n := 1) (by kernel_rfl)) <|
  And.intro (L_len (C := kon) (t := 93) (by kernel_rfl)) <|
  And.intro (L_lenSl (C := kon) (t := 93) (e := 4) (by kernel_rfl)) <|
  And.intro (L_store (C := kon) (t := 9) (n := 1) (by kernel_rfl)) <|
  And.intro (show ∀ (b o : Nat), evFieldAddr kon.P 97 (.pointer (some ⟨b, o, none⟩)) 0 = some (.pointer (some ⟨b, o + 0, none⟩)) from by intros; kernel_rfl) <|
  And.intro (L_loadC (C := kon) (t := 94) (by kernel_rfl)) <|
  And.intro (L_buildSlice (C := kon) (t := 94) (e := 34) (n := 10) (z := (.agg #[.int .i64 0, .int .i64 0, .int .i64 0, .string ByteArray.empty, .bool false, .slice none 0 0, .int .i64 0, .int .i64 0, .int .i64 0, .int .i64 0])) (zs := [.int .i64 0, .int .i64 0, .int .i64 0, .string ByteArray.empty, .bool false, .slice none 0 0, .int .i64 0, .int .i64 0, .int .i64 0, .int .i64 0]) (len := 1) (by kernel_rfl) (by kernel_rfl) (by kernel_rfl) (by kernel_rfl) (by kernel_rfl) (by kernel_rfl)) <|
  And.intro (show ∀ (n1 : Int) (n2 : Int) (n3 : Int) (s4 : ByteArray) (b5 : Bool) (a6 : Option Addr) (k7 : Nat) (k8 : Nat) (n9 : Int) (n10 : Int) (n11 : Int) (n12 : Int), litRow 34 10 1 [.int .i64 0, .int .i64 0, .int .i64 0, .string ByteArray.empty, .bool false, .slice none 0 0, .int .i64 0, .int .i64 0, .int .i64 0, .int .i64 0] [(0, (.agg #[.int .i64 n1, .int .i64 n2, .int .i64 n3, .string s4, .bool b5, .slice a6 k7 k8, .int .i64 n9, .int .i64 n10, .int .i64 n11, .int .i64 n12]))] = some (mkRow 34 1 [.int .i64 n1, .int .i64 n2, .int .i64 n3, .string s4, .bool b5, .slice a6 k7 k8, .int .i64 n9, .int .i64 n10, .int .i64 n11, .int .i64 n12]) from by intros; kernel_rfl) <|
  And.intro (L_append (C := kon) (t := 94) (u := 94) (e := 34) (by kernel_rfl)) <|
  And.intro (L_store (C := kon) (t := 94) (n := 1) (by kernel_rfl)) <|
  And.intro (show ∀ (b o : Nat), evFieldAddr kon.P 97 (.pointer (some ⟨b, o, none⟩)) 1 = some (.pointer (some ⟨b, o + 1, none⟩)) from by intros; kernel_rfl) <|
  And.intro (L_loadC (C := kon) (t := 95) (by kernel_rfl)) <|
  And.intro (L_len (C := kon) (t := 94) (by kernel_rfl)) <|
  And.intro (L_lenSl (C := kon) (t := 94) (e := 34) (by kernel_rfl)) <|
  And.intro (show ∀ (n1 : Int) (n2 : Int) (s3 : ByteArray), evBuild kon.P 126 [(0, (.int .i64 n1)), (1, (.int .i64 n2)), (2, (.string s3))] = some (.agg #[.int .i64 n1, .int .i64 n2, .string s3]) from by intros; kernel_rfl) <|
  (L_buildSlice (C := kon) (t := 95) (e := 126) (n := 3) (z := (.agg #[.int .i64 0, .int .i64 0, .string ByteArray.empty])) (zs := [.int .i64 0, .int .i64 0, .string ByteArray.empty]) (len := 1) (by kernel_rfl) (by kernel_rfl) (by kernel_rfl) (by kernel_rfl) (by kernel_rfl) (by kernel_rfl))) :=
  And.intro (show ∀ (b o : Nat), evFieldAddr kon.P 40 (.pointer (some ⟨b, o, none⟩)) 4 = some (.pointer (some ⟨b, o + 4, none⟩)) from by intros; kernel_rfl) <|
  And.intro (show ∀ (b o : Nat), evFieldAddr kon.P 40 (.pointer (some ⟨b, o, none⟩)) 5 = some (.pointer (some ⟨b, o + 5, none⟩)) from by intros; kernel_rfl) <|
  And.intro (show ∀ (b o : Nat), evFieldAddr kon.P 40 (.pointer (some ⟨b, o, none⟩)) 6 = some (.pointer (some ⟨b, o + 6, none⟩)) from by intros; kernel_rfl) <|
  And.intro (show ∀ (n1 : Int) (n2 : Int) (n3 : Int) (s4 : ByteArray) (b5 : Bool) (a6 : Option Addr) (k7 : Nat) (k8 : Nat) (n9 : Int) (n10 : Int) (n11 : Int) (n12 : Int), evBuild kon.P 34 [(0, (.int .i64 n1)), (1, (.int .i64 n2)), (2, (.int .i64 n3)), (3, (.string s4)), (4, (.bool b5)), (5, (.slice a6 k7 k8)), (6, (.agg #[.int .i64 n9, .int .i64 n10, .int .i64 n11, .int .i64 n12]))] = some (.agg #[.int .i64 n1, .int .i64 n2, .int .i64 n3, .string s4, .bool b5, .slice a6 k7 k8, .int .i64 n9, .int .i64 n10, .int .i64 n11, .int .i64 n12]) from by intros; kernel_rfl) <|
  And.intro (show ∀ (a1 : Option Addr), evBuild kon.P 118 [(0, (.pointer a1))] = some (.agg #[.pointer a1, .int .i64 0]) from by intros; kernel_rfl) <|
  And.intro (show ∀ (b o : Nat), evFieldAddr kon.P 120 (.pointer (some ⟨b, o, none⟩)) 2 = some (.pointer (some ⟨b, o + 2, none⟩)) from by intros; kernel_rfl) <|
  And.intro (L_loadC (C := kon) (t := 46) (by kernel_rfl)) <|
  And.intro (L_sliceSl (C := kon) (t := 46) (e := 9) (n := 1) (by kernel_rfl) (by kernel_rfl)) <|
  And.intro (L_store (C := kon) (t := 46) (n := 1) (by kernel_rfl)) <|
  And.intro (show ∀ (a1 : Option Addr) (n2 : Int) (a3 : Option Addr) (k4 : Nat) (k5 : Nat), evBuild kon.P 120 [(0, (.pointer a1)), (1, (.int .i64 n2)), (2, (.slice a3 k4 k5))] = some (.agg #[.pointer a1, .int .i64 n2, .slice a3 k4 k5, .int .i64 0]) from by intros; kernel_rfl) <|
  And.intro (show ∀ (b1 : Bool), evBuild kon.P 62 [(0, (.bool b1))] = some (.agg #[.bool b1, .bool false, .bool false]) from by intros; kernel_rfl) <|
  And.intro (show ∀ (n1 : Int) (n2 : Int) (n3 : Int) (n4 : Int) (n5 : Int), evBuild kon.P 60 [(1, (.int .i64 n1)), (2, (.int .i64 n2)), (4, (.int .i64 n3)), (5, (.int .i64 n4)), (6, (.int .i64 n5))] = some (.agg #[.int .i64 0, .int .i64 n1, .int .i64 n2, .int .i64 0, .int .i64 n3, .int .i64 n4, .int .i64 n5]) from by intros; kernel_rfl) <|
  And.intro (show ∀ (n1 : Int) (n2 : Int) (n3 : Int), evBuild kon.P 60 [(1, (.int .i64 n1)), (5, (.int .i64 n2)), (6, (.int .i64 n3))] = some (.agg #[.int .i64 0, .int .i64 n1, .int .i64 0, .int .i64 0, .int .i64 0, .int .i64 n2, .int .i64 n3]) from by intros; kernel_rfl) <|
  And.intro (show ∀ (b o : Nat), evFieldAddr kon.P 32 (.pointer (some ⟨b, o, none⟩)) 0 = some (.pointer (some ⟨b, o + 0, none⟩)) from by intros; kernel_rfl) <|
  And.intro (show ∀ (b o : Nat), evFieldAddr kon.P 32 (.pointer (some ⟨b, o, none⟩)) 1 = some (.pointer (some ⟨b, o + 1, none⟩)) from by intros; kernel_rfl) <|
  And.intro (show ∀ (b o : Nat), evFieldAddr kon.P 32 (.pointer (some ⟨b, o, none⟩)) 2 = some (.pointer (some ⟨b, o + 2, none⟩)) from by intros; kernel_rfl) <|
  And.intro (show ∀ (b o : Nat), evFieldAddr kon.P 32 (.pointer (some ⟨b, o, none⟩)) 3 = some (.pointer (some ⟨b, o + 3, none⟩)) from by intros; kernel_rfl) <|
  And.intro (L_loadC (C := kon) (t := 25) (by kernel_rfl)) <|
  And.intro (show ∀ (n1 : Int), evBuild kon.P 34 [(0, (.int .i64 n1))] = some (.agg #[.int .i64 n1, .int .i64 0, .int .i64 0, .string ByteArray.empty, .bool false, .slice none 0 0, .int .i64 0, .int .i64 0, .int .i64 0, .int .i64 0]) from by intros; kernel_rfl) <|
  And.intro (L_append (C := kon) (t := 30) (u := 30) (e := 65) (by kernel_rfl)) <|
  And.intro (show ∀ (n1 : Int) (n2 : Int) (b3 : Bool) (a4 : Option Addr) (k5 : Nat) (k6 : Nat) (n7 : Int) (n8 : Int) (n9 : Int) (n10 : Int), evBuild kon.P 34 [(0, (.int .i64 n1)), (1, (.int .i64 n2)), (4, (.bool b3)), (5, (.slice a4 k5 k6)), (6, (.agg #[.int .i64 n7, .int .i64 n8, .int .i64 n9, .int .i64 n10]))] = some (.agg #[.int .i64 n1, .int .i64 n2, .int .i64 0, .string ByteArray.empty, .bool b3, .slice a4 k5 k6, .int .i64 n7, .int .i64 n8, .int .i64 n9, .int .i64 n10]) from by intros; kernel_rfl) <|
  And.intro (show ∀ (b o : Nat), evFieldAddr kon.P 97 (.pointer (some ⟨b, o, none⟩)) 2 = some (.pointer (some ⟨b, o + 2, none⟩)) from by intros; kernel_rfl) <|
  And.intro (L_loadC (C := kon) (t := 93) (by kernel_rfl)) <|
  And.intro (L_append (C := kon) (t := 93) (u := 93) (e := 4) (by kernel_rfl)) <|
  And.intro (L_store (C := kon) (t := 93) (n := 1) (by kernel_rfl)) <|
  And.intro (L_len (C := kon) (t := 93) (by kernel_rfl)) <|
  And.intro (L_lenSl (C := kon) (t := 93) (e := 4) (by kernel_rfl)) <|
  And.intro (L_store (C := kon) (t := 9) (n := 1) (by kernel_rfl)) <|
  And.intro (show ∀ (b o : Nat), evFieldAddr kon.P 97 (.pointer (some ⟨b, o, none⟩)) 0 = some (.pointer (some ⟨b, o + 0, none⟩)) from by intros; kernel_rfl) <|
  And.intro (L_loadC (C := kon) (t := 94) (by kernel_rfl)) <|
  And.intro (L_buildSlice (C := kon) (t := 94) (e := 34) (n := 10) (z := (.agg #[.int .i64 0, .int .i64 0, .int .i64 0, .string ByteArray.empty, .bool false, .slice none 0 0, .int .i64 0, .int .i64 0, .int .i64 0, .int .i64 0])) (zs := [.int .i64 0, .int .i64 0, .int .i64 0, .string ByteArray.empty, .bool false, .slice none 0 0, .int .i64 0, .int .i64 0, .int .i64 0, .int .i64 0]) (len := 1) (by kernel_rfl) (by kernel_rfl) (by kernel_rfl) (by kernel_rfl) (by kernel_rfl) (by kernel_rfl)) <|
  And.intro (show ∀ (n1 : Int) (n2 : Int) (n3 : Int) (s4 : ByteArray) (b5 : Bool) (a6 : Option Addr) (k7 : Nat) (k8 : Nat) (n9 : Int) (n10 : Int) (n11 : Int) (n12 : Int), litRow 34 10 1 [.int .i64 0, .int .i64 0, .int .i64 0, .string ByteArray.empty, .bool false, .slice none 0 0, .int .i64 0, .int .i64 0, .int .i64 0, .int .i64 0] [(0, (.agg #[.int .i64 n1, .int .i64 n2, .int .i64 n3, .string s4, .bool b5, .slice a6 k7 k8, .int .i64 n9, .int .i64 n10, .int .i64 n11, .int .i64 n12]))] = some (mkRow 34 1 [.int .i64 n1, .int .i64 n2, .int .i64 n3, .string s4, .bool b5, .slice a6 k7 k8, .int .i64 n9, .int .i64 n10, .int .i64 n11, .int .i64 n12]) from by intros; kernel_rfl) <|
  And.intro (L_append (C := kon) (t := 94) (u := 94) (e := 34) (by kernel_rfl)) <|
  And.intro (L_store (C := kon) (t := 94) (n := 1) (by kernel_rfl)) <|
  And.intro (show ∀ (b o : Nat), evFieldAddr kon.P 97 (.pointer (some ⟨b, o, none⟩)) 1 = some (.pointer (some ⟨b, o + 1, none⟩)) from by intros; kernel_rfl) <|
  And.intro (L_loadC (C := kon) (t := 95) (by kernel_rfl)) <|
  And.intro (L_len (C := kon) (t := 94) (by kernel_rfl)) <|
  And.intro (L_lenSl (C := kon) (t := 94) (e := 34) (by kernel_rfl)) <|
  And.intro (show ∀ (n1 : Int) (n2 : Int) (s3 : ByteArray), evBuild kon.P 126 [(0, (.int .i64 n1)), (1, (.int .i64 n2)), (2, (.string s3))] = some (.agg #[.int .i64 n1, .int .i64 n2, .string s3]) from by intros; kernel_rfl) <|
  (L_buildSlice (C := kon) (t := 95) (e := 126) (n := 3) (z := (.agg #[.int .i64 0, .int .i64 0, .string ByteArray.empty])) (zs := [.int .i64 0, .int .i64 0, .string ByteArray.empty]) (len := 1) (by kernel_rfl) (by kernel_rfl) (by kernel_rfl) (by kernel_rfl) (by kernel_rfl) (by kernel_rfl))
theorem typ5 : type_of% (
  And.intro (show ∀ (n1 : Int) (n2 : Int) (s3 : ByteArray), litRow 126 3 1 [.int .i64 0, .int .i64 0, .string ByteArray.empty] [(0, (.agg #[.int .i64 n1, .int .i64 n2, .string s3]))] = some (mkRow 126 1 [.int .i64 n1, .int .i64 n2, .string s3]) from by intros; kernel_rfl) <|
  And.intro (L_append (C := kon) (t := 95) (u := 95) (e := 126) (by kernel_rfl)) <|
  And.intro (L_store (C := kon) (t := 95) (n := 1) (by kernel_rfl)) <|
  And.intro (show ∀ (b o : Nat), evFieldAddr kon.P 60 (.pointer (some ⟨b, o, none⟩)) 4 = some (.pointer (some ⟨b, o + 4, none⟩)) from by intros; kernel_rfl) <|
  And.intro (show ∀ (b o : Nat), evFieldAddr kon.P 60 (.pointer (some ⟨b, o, none⟩)) 3 = some (.pointer (some ⟨b, o + 3, none⟩)) from by intros; kernel_rfl) <|
  And.intro (show ∀ (b o : Nat), evFieldAddr kon.P 110 (.pointer (some ⟨b, o, none⟩)) 0 = some (.pointer (some ⟨b, o + 0, none⟩)) from by intros; kernel_rfl) <|
  And.intro (L_store (C := kon) (t := 30) (n := 1) (by kernel_rfl)) <|
  And.intro (L_store (C := kon) (t := 32) (n := 4) (by kernel_rfl)) <|
  And.intro (L_cmp (C := kon) (t := 106) (by kernel_rfl) (op := .eql) rfl) <|
  And.intro (L_cmpE (C := kon) (t := 106) (by kernel_rfl)) <|
  And.intro (show ∀ (x y : Operand) (h : Hp) (p i : Nat), cmpV kon.P .eql 106 x y h (.pointer (some ⟨p, i, none⟩)) (.pointer (none)) = some (.bool false) from by intros; kernel_rfl) <|
  And.intro (show ∀ (x y : Operand) (h : Hp) (p i : Nat), cmpV kon.P .eql 106 x y h (.pointer (none)) (.pointer (some ⟨p, i, none⟩)) = some (.bool false) from by intros; kernel_rfl) <|
  And.intro (show ∀ (x y : Operand) (h : Hp), cmpV kon.P .eql 106 x y h (.pointer (none)) (.pointer (none)) = some (.bool true) from by intros; kernel_rfl) <|
  And.intro (L_alloc (C := kon) (t := 60) (z := (.agg #[.int .i64 0, .int .i64 0, .int .i64 0, .int .i64 0, .int .i64 0, .int .i64 0, .int .i64 0])) (cs := [.int .i64 0, .int .i64 0, .int .i64 0, .int .i64 0, .int .i64 0, .int .i64 0, .int .i64 0]) (by kernel_rfl) (by kernel_rfl) (by kernel_rfl)) <|
  And.intro (L_store (C := kon) (t := 60) (n := 7) (by kernel_rfl)) <|
  And.intro (show ∀ (n1 : Int) (n2 : Int), evBuild kon.P 40 [(0, (.int .i64 n1)), (1, (.int .i64 n2))] = some (.agg #[.int .i64 n1, .int .i64 n2, .int .i64 0, .string ByteArray.empty, .bool false, .slice none 0 0, .int .i64 0, .int .i64 0, .int .i64 0, .int .i64 0]) from by intros; kernel_rfl) <|
  And.intro (show ∀ (n1 : Int) (s2 : ByteArray), evBuild kon.P 83 [(0, (.int .i64 n1)), (1, (.string s2))] = some (.agg #[.int .i64 n1, .string s2]) from by intros; kernel_rfl) <|
  And.intro (show ∀ (n1 : Int), evBuild kon.P 83 [(0, (.int .i64 n1))] = some (.agg #[.int .i64 n1, .string ByteArray.empty]) from by intros; kernel_rfl) <|
  And.intro (L_buildSlice (C := kon) (t := 81) (e := 83) (n := 2) (z := (.agg #[.int .i64 0, .string ByteArray.empty])) (zs := [.int .i64 0, .string ByteArray.empty]) (len := 2) (by kernel_rfl) (by kernel_rfl) (by kernel_rfl) (by kernel_rfl) (by kernel_rfl) (by kernel_rfl)) <|
  And.intro (show ∀ (n1 : Int) (s2 : ByteArray) (n3 : Int) (s4 : ByteArray), litRow 83 2 2 [.int .i64 0, .string ByteArray.empty] [(0, (.agg #[.int .i64 n1, .string s2])), (1, (.agg #[.int .i64 n3, .string s4]))] = some (mkRow 83 2 [.int .i64 n1, .string s2, .int .i64 n3, .string s4]) from by intros; kernel_rfl) <|
  And.intro (L_loadA (C := kon) (t := 83) (n := 2) (by kernel_rfl) (by kernel_rfl)) <|
  And.intro (L_alloc (C := kon) (t := 83) (z := (.agg #[.int .i64 0, .string ByteArray.empty])) (cs := [.int .i64 0, .string ByteArray.empty]) (by kernel_rfl) (by kernel_rfl) (by kernel_rfl)) <|
  And.intro (L_store (C := kon) (t := 83) (n := 2) (by kernel_rfl)) <|
  And.intro (show ∀ (b o : Nat), evFieldAddr kon.P 83 (.pointer (some ⟨b, o, none⟩)) 0 = some (.pointer (some ⟨b, o + 0, none⟩)) from by intros; kernel_rfl) <|
  And.intro (show evBuild kon.P 34 [] = some (.agg #[.int .i64 0, .int .i64 0, .int .i64 0, .string ByteArray.empty, .bool false, .slice none 0 0, .int .i64 0, .int .i64 0, .int .i64 0, .int .i64 0]) from by intros; kernel_rfl) <|
  And.intro (show ∀ (n1 : Int) (n2 : Int) (n3 : Int) (s4 : ByteArray) (b5 : Bool) (a6 : Option Addr) (k7 : Nat) (k8 : Nat) (n9 : Int) (n10 : Int) (n11 : Int) (n12 : Int), evBuild kon.P 40 [(0, (.int .i64 n1)), (1, (.int .i64 n2)), (2, (.int .i64 n3)), (3, (.string s4)), (4, (.bool b5)), (5, (.slice a6 k7 k8)), (6, (.agg #[.int .i64 n9, .int .i64 n10, .int .i64 n11, .int .i64 n12]))] = some (.agg #[.int .i64 n1, .int .i64 n2, .int .i64 n3, .string s4, .bool b5, .slice a6 k7 k8, .int .i64 n9, .int .i64 n10, .int .i64 n11, .int .i64 n12]) from by intros; kernel_rfl) <|
  And.intro (L_indexAddr (C := kon) (t := 95) (e := 126) (n := 3) (by kernel_rfl) (by kernel_rfl)) <|
  And.intro (show ∀ (b o : Nat), evFieldAddr kon.P 126 (.pointer (some ⟨b, o, none⟩)) 1 = some (.pointer (some ⟨b, o + 1, none⟩)) from by intros; kernel_rfl) <|
  And.intro (show ∀ (b o : Nat), evFieldAddr kon.P 110 (.pointer (some ⟨b, o, none⟩)) 2 = some (.pointer (some ⟨b, o + 11, none⟩)) from by intros; kernel_rfl) <|
  And.intro (L_sliceSl (C := kon) (t := 95) (e := 126) (n := 3) (by kernel_rfl) (by kernel_rfl)) <|
  And.intro (L_indexAddr (C := kon) (t := 94) (e := 34) (n := 10) (by kernel_rfl) (by kernel_rfl)) <|
  And.intro (L_indexAddr (C := kon) (t := 93) (e := 4) (n := 1) (by kernel_rfl) (by kernel_rfl)) <|
  And.intro (L_store (C := kon) (t := 4) (n := 1) (by kernel_rfl)) <|
  And.intro (L_len (C := kon) (t := 95) (by kernel_rfl)) <|
  And.intro (L_lenSl (C := kon) (t := 95) (e := 126) (by kernel_rfl)) <|
  And.intro (L_loadA (C := kon) (t := 126) (n := 3) (by kernel_rfl) (by kernel_rfl)) <|
  And.intro (show ∀ (b o : Nat), evFieldAddr kon.P 92 (.pointer (some ⟨b, o, none⟩)) 0 = some (.pointer (some ⟨b, o + 0, none⟩)) from by intros; kernel_rfl) <|
  And.intro (L_loadC (C := kon) (t := 88) (by kernel_rfl)) <|
  And.intro (show ∀ (n1 : Int) (s2 : ByteArray), evBuild kon.P 149 [(0, (.int .i64 n1)), (1, (.string s2))] = some (.agg #[.int .i64 n1, .string s2]) from by intros; kernel_rfl) <|
  (show ∀ (n1 : Int) (n2 : Int) (b3 : Bool) (a4 : Option Addr) (k5 : Nat) (k6 : Nat) (n7 : Int) (n8 : Int) (n9 : Int) (n10 : Int), evBuild kon.P 40 [(0, (.int .i64 n1)), (1, (.int .i64 n2)), (4, (.bool b3)), (5, (.slice a4 k5 k6)), (6, (.agg #[.int .i64 n7, .int .i64 n8, .int .i64 n9, .int .i64 n10]))] = some (.agg #[.int .i64 n1, .int .i64 n2, .int .i64 0, .string ByteArray.empty, .bool b3, .slice a4 k5 k6, .int .i64 n7, .int .i64 n8, .int .i64 n9, .int .i64 n10]) from by intros; kernel_rfl)) :=
  And.intro (show ∀ (n1 : Int) (n2 : Int) (s3 : ByteArray), litRow 126 3 1 [.int .i64 0, .int .i64 0, .string ByteArray.empty] [(0, (.agg #[.int .i64 n1, .int .i64 n2, .string s3]))] = some (mkRow 126 1 [.int .i64 n1, .int .i64 n2, .string s3]) from by intros; kernel_rfl) <|
  And.intro (L_append (C := kon) (t := 95) (u := 95) (e := 126) (by kernel_rfl)) <|
  And.intro (L_store (C := kon) (t := 95) (n := 1) (by kernel_rfl)) <|
  And.intro (show ∀ (b o : Nat), evFieldAddr kon.P 60 (.pointer (some ⟨b, o, none⟩)) 4 = some (.pointer (some ⟨b, o + 4, none⟩)) from by intros; kernel_rfl) <|
  And.intro (show ∀ (b o : Nat), evFieldAddr kon.P 60 (.pointer (some ⟨b, o, none⟩)) 3 = some (.pointer (some ⟨b, o + 3, none⟩)) from by intros; kernel_rfl) <|
  And.intro (show ∀ (b o : Nat), evFieldAddr kon.P 110 (.pointer (some ⟨b, o, none⟩)) 0 = some (.pointer (some ⟨b, o + 0, none⟩)) from by intros; kernel_rfl) <|
  And.intro (L_store (C := kon) (t := 30) (n := 1) (by kernel_rfl)) <|
  And.intro (L_store (C := kon) (t := 32) (n := 4) (by kernel_rfl)) <|
  And.intro (L_cmp (C := kon) (t := 106) (by kernel_rfl) (op := .eql) rfl) <|
  And.intro (L_cmpE (C := kon) (t := 106) (by kernel_rfl)) <|
  And.intro (show ∀ (x y : Operand) (h : Hp) (p i : Nat), cmpV kon.P .eql 106 x y h (.pointer (some ⟨p, i, none⟩)) (.pointer (none)) = some (.bool false) from by intros; kernel_rfl) <|
  And.intro (show ∀ (x y : Operand) (h : Hp) (p i : Nat), cmpV kon.P .eql 106 x y h (.pointer (none)) (.pointer (some ⟨p, i, none⟩)) = some (.bool false) from by intros; kernel_rfl) <|
  And.intro (show ∀ (x y : Operand) (h : Hp), cmpV kon.P .eql 106 x y h (.pointer (none)) (.pointer (none)) = some (.bool true) from by intros; kernel_rfl) <|
  And.intro (L_alloc (C := kon) (t := 60) (z := (.agg #[.int .i64 0, .int .i64 0, .int .i64 0, .int .i64 0, .int .i64 0, .int .i64 0, .int .i64 0])) (cs := [.int .i64 0, .int .i64 0, .int .i64 0, .int .i64 0, .int .i64 0, .int .i64 0, .int .i64 0]) (by kernel_rfl) (by kernel_rfl) (by kernel_rfl)) <|
  And.intro (L_store (C := kon) (t := 60) (n := 7) (by kernel_rfl)) <|
  And.intro (show ∀ (n1 : Int) (n2 : Int), evBuild kon.P 40 [(0, (.int .i64 n1)), (1, (.int .i64 n2))] = some (.agg #[.int .i64 n1, .int .i64 n2, .int .i64 0, .string ByteArray.empty, .bool false, .slice none 0 0, .int .i64 0, .int .i64 0, .int .i64 0, .int .i64 0]) from by intros; kernel_rfl) <|
  And.intro (show ∀ (n1 : Int) (s2 : ByteArray), evBuild kon.P 83 [(0, (.int .i64 n1)), (1, (.string s2))] = some (.agg #[.int .i64 n1, .string s2]) from by intros; kernel_rfl) <|
  And.intro (show ∀ (n1 : Int), evBuild kon.P 83 [(0, (.int .i64 n1))] = some (.agg #[.int .i64 n1, .string ByteArray.empty]) from by intros; kernel_rfl) <|
  And.intro (L_buildSlice (C := kon) (t := 81) (e := 83) (n := 2) (z := (.agg #[.int .i64 0, .string ByteArray.empty])) (zs := [.int .i64 0, .string ByteArray.empty]) (len := 2) (by kernel_rfl) (by kernel_rfl) (by kernel_rfl) (by kernel_rfl) (by kernel_rfl) (by kernel_rfl)) <|
  And.intro (show ∀ (n1 : Int) (s2 : ByteArray) (n3 : Int) (s4 : ByteArray), litRow 83 2 2 [.int .i64 0, .string ByteArray.empty] [(0, (.agg #[.int .i64 n1, .string s2])), (1, (.agg #[.int .i64 n3, .string s4]))] = some (mkRow 83 2 [.int .i64 n1, .string s2, .int .i64 n3, .string s4]) from by intros; kernel_rfl) <|
  And.intro (L_loadA (C := kon) (t := 83) (n := 2) (by kernel_rfl) (by kernel_rfl)) <|
  And.intro (L_alloc (C := kon) (t := 83) (z := (.agg #[.int .i64 0, .string ByteArray.empty])) (cs := [.int .i64 0, .string ByteArray.empty]) (by kernel_rfl) (by kernel_rfl) (by kernel_rfl)) <|
  And.intro (L_store (C := kon) (t := 83) (n := 2) (by kernel_rfl)) <|
  And.intro (show ∀ (b o : Nat), evFieldAddr kon.P 83 (.pointer (some ⟨b, o, none⟩)) 0 = some (.pointer (some ⟨b, o + 0, none⟩)) from by intros; kernel_rfl) <|
  And.intro (show evBuild kon.P 34 [] = some (.agg #[.int .i64 0, .int .i64 0, .int .i64 0, .string ByteArray.empty, .bool false, .slice none 0 0, .int .i64 0, .int .i64 0, .int .i64 0, .int .i64 0]) from by intros; kernel_rfl) <|
  And.intro (show ∀ (n1 : Int) (n2 : Int) (n3 : Int) (s4 : ByteArray) (b5 : Bool) (a6 : Option Addr) (k7 : Nat) (k8 : Nat) (n9 : Int) (n10 : Int) (n11 : Int) (n12 : Int), evBuild kon.P 40 [(0, (.int .i64 n1)), (1, (.int .i64 n2)), (2, (.int .i64 n3)), (3, (.string s4)), (4, (.bool b5)), (5, (.slice a6 k7 k8)), (6, (.agg #[.int .i64 n9, .int .i64 n10, .int .i64 n11, .int .i64 n12]))] = some (.agg #[.int .i64 n1, .int .i64 n2, .int .i64 n3, .string s4, .bool b5, .slice a6 k7 k8, .int .i64 n9, .int .i64 n10, .int .i64 n11, .int .i64 n12]) from by intros; kernel_rfl) <|
  And.intro (L_indexAddr (C := kon) (t := 95) (e := 126) (n := 3) (by kernel_rfl) (by kernel_rfl)) <|
  And.intro (show ∀ (b o : Nat), evFieldAddr kon.P 126 (.pointer (some ⟨b, o, none⟩)) 1 = some (.pointer (some ⟨b, o + 1, none⟩)) from by intros; kernel_rfl) <|
  And.intro (show ∀ (b o : Nat), evFieldAddr kon.P 110 (.pointer (some ⟨b, o, none⟩)) 2 = some (.pointer (some ⟨b, o + 11, none⟩)) from by intros; kernel_rfl) <|
  And.intro (L_sliceSl (C := kon) (t := 95) (e := 126) (n := 3) (by kernel_rfl) (by kernel_rfl)) <|
  And.intro (L_indexAddr (C := kon) (t := 94) (e := 34) (n := 10) (by kernel_rfl) (by kernel_rfl)) <|
  And.intro (L_indexAddr (C := kon) (t := 93) (e := 4) (n := 1) (by kernel_rfl) (by kernel_rfl)) <|
  And.intro (L_store (C := kon) (t := 4) (n := 1) (by kernel_rfl)) <|
  And.intro (L_len (C := kon) (t := 95) (by kernel_rfl)) <|
  And.intro (L_lenSl (C := kon) (t := 95) (e := 126) (by kernel_rfl)) <|
  And.intro (L_loadA (C := kon) (t := 126) (n := 3) (by kernel_rfl) (by kernel_rfl)) <|
  And.intro (show ∀ (b o : Nat), evFieldAddr kon.P 92 (.pointer (some ⟨b, o, none⟩)) 0 = some (.pointer (some ⟨b, o + 0, none⟩)) from by intros; kernel_rfl) <|
  And.intro (L_loadC (C := kon) (t := 88) (by kernel_rfl)) <|
  And.intro (show ∀ (n1 : Int) (s2 : ByteArray), evBuild kon.P 149 [(0, (.int .i64 n1)), (1, (.string s2))] = some (.agg #[.int .i64 n1, .string s2]) from by intros; kernel_rfl) <|
  (show ∀ (n1 : Int) (n2 : Int) (b3 : Bool) (a4 : Option Addr) (k5 : Nat) (k6 : Nat) (n7 : Int) (n8 : Int) (n9 : Int) (n10 : Int), evBuild kon.P 40 [(0, (.int .i64 n1)), (1, (.int .i64 n2)), (4, (.bool b3)), (5, (.slice a4 k5 k6)), (6, (.agg #[.int .i64 n7, .int .i64 n8, .int .i64 n9, .int .i64 n10]))] = some (.agg #[.int .i64 n1, .int .i64 n2, .int .i64 0, .string ByteArray.empty, .bool b3, .slice a4 k5 k6, .int .i64 n7, .int .i64 n8, .int .i64 n9, .int .i64 n10]) from by intros; kernel_rfl)
theorem typ6 : type_of% (
  And.intro (show ∀ (n1 : Int) (n2 : Int), evBuild kon.P 40 [(0, (.int .i64 n1)), (2, (.int .i64 n2))] = some (.agg #[.int .i64 n1, .int .i64 0, .int .i64 n2, .string ByteArray.empty, .bool false, .slice none 0 0, .int .i64 0, .int .i64 0, .int .i64 0, .int .i64 0]) from by intros; kernel_rfl) <|
  And.intro (show ∀ (a1 : Option Addr) (a2 : Option Addr) (k3 : Nat) (k4 : Nat), evBuild kon.P 120 [(0, (.pointer a1)), (2, (.slice a2 k3 k4))] = some (.agg #[.pointer a1, .int .i64 0, .slice a2 k3 k4, .int .i64 0]) from by intros; kernel_rfl) <|
  And.intro (show ∀ (b o : Nat), evFieldAddr kon.P 120 (.pointer (some ⟨b, o, none⟩)) 0 = some (.pointer (some ⟨b, o + 0, none⟩)) from by intros; kernel_rfl) <|
  And.intro (show ∀ (b o : Nat), evFieldAddr kon.P 120 (.pointer (some ⟨b, o, none⟩)) 1 = some (.pointer (some ⟨b, o + 1, none⟩)) from by intros; kernel_rfl) <|
  And.intro (show ∀ (b o : Nat), evFieldAddr kon.P 118 (.pointer (some ⟨b, o, none⟩)) 0 = some (.pointer (some ⟨b, o + 0, none⟩)) from by intros; kernel_rfl) <|
  And.intro (L_loadC (C := kon) (t := 27) (by kernel_rfl)) <|
  And.intro (show ∀ (b o : Nat), evFieldAddr kon.P 118 (.pointer (some ⟨b, o, none⟩)) 1 = some (.pointer (some ⟨b, o + 1, none⟩)) from by intros; kernel_rfl) <|
  And.intro (show evBuild kon.P 62 [] = some (.agg #[.bool false, .bool false, .bool false]) from by intros; kernel_rfl) <|
  And.intro (show ∀ (b o : Nat), evFieldAddr kon.P 65 (.pointer (some ⟨b, o, none⟩)) 0 = some (.pointer (some ⟨b, o + 0, none⟩)) from by intros; kernel_rfl) <|
  And.intro (show ∀ (b o : Nat), evFieldAddr kon.P 65 (.pointer (some ⟨b, o, none⟩)) 1 = some (.pointer (some ⟨b, o + 1, none⟩)) from by intros; kernel_rfl) <|
  And.intro (show ∀ (b o : Nat), evFieldAddr kon.P 62 (.pointer (some ⟨b, o, none⟩)) 0 = some (.pointer (some ⟨b, o + 0, none⟩)) from by intros; kernel_rfl) <|
  And.intro (show ∀ (b o : Nat), evFieldAddr kon.P 62 (.pointer (some ⟨b, o, none⟩)) 1 = some (.pointer (some ⟨b, o + 1, none⟩)) from by intros; kernel_rfl) <|
  And.intro (show ∀ (b o : Nat), evFieldAddr kon.P 62 (.pointer (some ⟨b, o, none⟩)) 2 = some (.pointer (some ⟨b, o + 2, none⟩)) from by intros; kernel_rfl) <|
  And.intro (L_alloc (C := kon) (t := 65) (z := (.agg #[.string ByteArray.empty, .bool false, .bool false, .bool false])) (cs := [.string ByteArray.empty, .bool false, .bool false, .bool false]) (by kernel_rfl) (by kernel_rfl) (by kernel_rfl)) <|
  And.intro (L_store (C := kon) (t := 65) (n := 4) (by kernel_rfl)) <|
  And.intro (L_bin (C := kon) (t := 30) (by kernel_rfl)) <|
  And.intro (show ∀ (x y : Operand) (p i l q : Nat), evBin kon.P .eql 30 x y (.slice (some ⟨p, i, none⟩) l q) (.slice none 0 0) = some (.bool false) from by intros; kernel_rfl) <|
  And.intro (show ∀ (x y : Operand), evBin kon.P .eql 30 x y (.slice none 0 0) (.slice none 0 0) = some (.bool true) from by intros; kernel_rfl) <|
  And.intro (L_buildSlice (C := kon) (t := 30) (e := 65) (n := 4) (z := (.agg #[.string ByteArray.empty, .bool false, .bool false, .bool false])) (zs := [.string ByteArray.empty, .bool false, .bool false, .bool false]) (len := 0) (by kernel_rfl) (by kernel_rfl) (by kernel_rfl) (by kernel_rfl) (by kernel_rfl) (by kernel_rfl)) <|
  And.intro (show litRow 65 4 0 [.string ByteArray.empty, .bool false, .bool false, .bool false] [] = some (mkRow 65 0 []) from by intros; kernel_rfl) <|
  And.intro (L_cmp (C := kon) (t := 137) (by kernel_rfl) (op := .eql) rfl) <|
  And.intro (L_cmpE (C := kon) (t := 137) (by kernel_rfl)) <|
  And.intro (show ∀ (x y : Operand) (h : Hp) (p i : Nat), cmpV kon.P .eql 137 x y h (.pointer (some ⟨p, i, none⟩)) (.pointer (none)) = some (.bool false) from by intros; kernel_rfl) <|
  And.intro (show ∀ (x y : Operand) (h : Hp) (p i : Nat), cmpV kon.P .eql 137 x y h (.pointer (none)) (.pointer (some ⟨p, i, none⟩)) = some (.bool false) from by intros; kernel_rfl) <|
  And.intro (show ∀ (x y : Operand) (h : Hp), cmpV kon.P .eql 137 x y h (.pointer (none)) (.pointer (none)) = some (.bool true) from by intros; kernel_rfl) <|
  And.intro (L_cmp (C := kon) (t := 137) (by kernel_rfl) (op := .neq) rfl) <|
  And.intro (L_cmpN (C := kon) (t := 137) (by kernel_rfl)) <|
  And.intro (show ∀ (x y : Operand) (h : Hp) (p i : Nat), cmpV kon.P .neq 137 x y h (.pointer (some ⟨p, i, none⟩)) (.pointer (none)) = some (.bool true) from by intros; kernel_rfl) <|
  And.intro (show ∀ (x y : Operand) (h : Hp) (p i : Nat), cmpV kon.P .neq 137 x y h (.pointer (none)) (.pointer (some ⟨p, i, none⟩)) = some (.bool true) from by intros; kernel_rfl) <|
  And.intro (show ∀ (x y : Operand) (h : Hp), cmpV kon.P .neq 137 x y h (.pointer (none)) (.pointer (none)) = some (.bool false) from by intros; kernel_rfl) <|
  And.intro (L_index (C := kon) (t := 9) (by kernel_rfl)) <|
  And.intro (L_bin (C := kon) (t := 5) (by kernel_rfl)) <|
  And.intro (L_append (C := kon) (t := 46) (u := 46) (e := 9) (by kernel_rfl)) <|
  And.intro (L_sliceStr (C := kon) (t := 9) (by kernel_rfl)) <|
  And.intro (show ∀ (b o : Nat), evFieldAddr kon.P 126 (.pointer (some ⟨b, o, none⟩)) 0 = some (.pointer (some ⟨b, o + 0, none⟩)) from by intros; kernel_rfl) <|
  And.intro (show ∀ (b o : Nat), evFieldAddr kon.P 126 (.pointer (some ⟨b, o, none⟩)) 2 = some (.pointer (some ⟨b, o + 2, none⟩)) from by intros; kernel_rfl) <|
  (show ∀ (b o : Nat), evFieldAddr kon.P 120 (.pointer (some ⟨b, o, none⟩)) 3 = some (.pointer (some ⟨b, o + 3, none⟩)) from by intros; kernel_rfl)) :=
  And.intro (show ∀ (n1 : Int) (n2 : Int), evBuild kon.P 40 [(0, (.int .i64 n1)), (2, (.int .i64 n2))] = some (.agg #[.int .i64 n1, .int .i64 0, .int .i64 n2, .string ByteArray.empty, .bool false, .slice none 0 0, .int .i64 0, .int .i64 0, .int .i64 0, .int .i64 0]) from by intros; kernel_rfl) <|
  And.intro (show ∀ (a1 : Option Addr) (a2 : Option Addr) (k3 : Nat) (k4 : Nat), evBuild kon.P 120 [(0, (.pointer a1)), (2, (.slice a2 k3 k4))] = some (.agg #[.pointer a1, .int .i64 0, .slice a2 k3 k4, .int .i64 0]) from by intros; kernel_rfl) <|
  And.intro (show ∀ (b o : Nat), evFieldAddr kon.P 120 (.pointer (some ⟨b, o, none⟩)) 0 = some (.pointer (some ⟨b, o + 0, none⟩)) from by intros; kernel_rfl) <|
  And.intro (show ∀ (b o : Nat), evFieldAddr kon.P 120 (.pointer (some ⟨b, o, none⟩)) 1 = some (.pointer (some ⟨b, o + 1, none⟩)) from by intros; kernel_rfl) <|
  And.intro (show ∀ (b o : Nat), evFieldAddr kon.P 118 (.pointer (some ⟨b, o, none⟩)) 0 = some (.pointer (some ⟨b, o + 0, none⟩)) from by intros; kernel_rfl) <|
  And.intro (L_loadC (C := kon) (t := 27) (by kernel_rfl)) <|
  And.intro (show ∀ (b o : Nat), evFieldAddr kon.P 118 (.pointer (some ⟨b, o, none⟩)) 1 = some (.pointer (some ⟨b, o + 1, none⟩)) from by intros; kernel_rfl) <|
  And.intro (show evBuild kon.P 62 [] = some (.agg #[.bool false, .bool false, .bool false]) from by intros; kernel_rfl) <|
  And.intro (show ∀ (b o : Nat), evFieldAddr kon.P 65 (.pointer (some ⟨b, o, none⟩)) 0 = some (.pointer (some ⟨b, o + 0, none⟩)) from by intros; kernel_rfl) <|
  And.intro (show ∀ (b o : Nat), evFieldAddr kon.P 65 (.pointer (some ⟨b, o, none⟩)) 1 = some (.pointer (some ⟨b, o + 1, none⟩)) from by intros; kernel_rfl) <|
  And.intro (show ∀ (b o : Nat), evFieldAddr kon.P 62 (.pointer (some ⟨b, o, none⟩)) 0 = some (.pointer (some ⟨b, o + 0, none⟩)) from by intros; kernel_rfl) <|
  And.intro (show ∀ (b o : Nat), evFieldAddr kon.P 62 (.pointer (some ⟨b, o, none⟩)) 1 = some (.pointer (some ⟨b, o + 1, none⟩)) from by intros; kernel_rfl) <|
  And.intro (show ∀ (b o : Nat), evFieldAddr kon.P 62 (.pointer (some ⟨b, o, none⟩)) 2 = some (.pointer (some ⟨b, o + 2, none⟩)) from by intros; kernel_rfl) <|
  And.intro (L_alloc (C := kon) (t := 65) (z := (.agg #[.string ByteArray.empty, .bool false, .bool false, .bool false])) (cs := [.string ByteArray.empty, .bool false, .bool false, .bool false]) (by kernel_rfl) (by kernel_rfl) (by kernel_rfl)) <|
  And.intro (L_store (C := kon) (t := 65) (n := 4) (by kernel_rfl)) <|
  And.intro (L_bin (C := kon) (t := 30) (by kernel_rfl)) <|
  And.intro (show ∀ (x y : Operand) (p i l q : Nat), evBin kon.P .eql 30 x y (.slice (some ⟨p, i, none⟩) l q) (.slice none 0 0) = some (.bool false) from by intros; kernel_rfl) <|
  And.intro (show ∀ (x y : Operand), evBin kon.P .eql 30 x y (.slice none 0 0) (.slice none 0 0) = some (.bool true) from by intros; kernel_rfl) <|
  And.intro (L_buildSlice (C := kon) (t := 30) (e := 65) (n := 4) (z := (.agg #[.string ByteArray.empty, .bool false, .bool false, .bool false])) (zs := [.string ByteArray.empty, .bool false, .bool false, .bool false]) (len := 0) (by kernel_rfl) (by kernel_rfl) (by kernel_rfl) (by kernel_rfl) (by kernel_rfl) (by kernel_rfl)) <|
  And.intro (show litRow 65 4 0 [.string ByteArray.empty, .bool false, .bool false, .bool false] [] = some (mkRow 65 0 []) from by intros; kernel_rfl) <|
  And.intro (L_cmp (C := kon) (t := 137) (by kernel_rfl) (op := .eql) rfl) <|
  And.intro (L_cmpE (C := kon) (t := 137) (by kernel_rfl)) <|
  And.intro (show ∀ (x y : Operand) (h : Hp) (p i : Nat), cmpV kon.P .eql 137 x y h (.pointer (some ⟨p, i, none⟩)) (.pointer (none)) = some (.bool false) from by intros; kernel_rfl) <|
  And.intro (show ∀ (x y : Operand) (h : Hp) (p i : Nat), cmpV kon.P .eql 137 x y h (.pointer (none)) (.pointer (some ⟨p, i, none⟩)) = some (.bool false) from by intros; kernel_rfl) <|
  And.intro (show ∀ (x y : Operand) (h : Hp), cmpV kon.P .eql 137 x y h (.pointer (none)) (.pointer (none)) = some (.bool true) from by intros; kernel_rfl) <|
  And.intro (L_cmp (C := kon) (t := 137) (by kernel_rfl) (op := .neq) rfl) <|
  And.intro (L_cmpN (C := kon) (t := 137) (by kernel_rfl)) <|
  And.intro (show ∀ (x y : Operand) (h : Hp) (p i : Nat), cmpV kon.P .neq 137 x y h (.pointer (some ⟨p, i, none⟩)) (.pointer (none)) = some (.bool true) from by intros; kernel_rfl) <|
  And.intro (show ∀ (x y : Operand) (h : Hp) (p i : Nat), cmpV kon.P .neq 137 x y h (.pointer (none)) (.pointer (some ⟨p, i, none⟩)) = some (.bool true) from by intros; kernel_rfl) <|
  And.intro (show ∀ (x y : Operand) (h : Hp), cmpV kon.P .neq 137 x y h (.pointer (none)) (.pointer (none)) = some (.bool false) from by intros; kernel_rfl) <|
  And.intro (L_index (C := kon) (t := 9) (by kernel_rfl)) <|
  And.intro (L_bin (C := kon) (t := 5) (by kernel_rfl)) <|
  And.intro (L_append (C := kon) (t := 46) (u := 46) (e := 9) (by kernel_rfl)) <|
  And.intro (L_sliceStr (C := kon) (t := 9) (by kernel_rfl)) <|
  And.intro (show ∀ (b o : Nat), evFieldAddr kon.P 126 (.pointer (some ⟨b, o, none⟩)) 0 = some (.pointer (some ⟨b, o + 0, none⟩)) from by intros; kernel_rfl) <|
  And.intro (show ∀ (b o : Nat), evFieldAddr kon.P 126 (.pointer (some ⟨b, o, none⟩)) 2 = some (.pointer (some ⟨b, o + 2, none⟩)) from by intros; kernel_rfl) <|
  (show ∀ (b o : Nat), evFieldAddr kon.P 120 (.pointer (some ⟨b, o, none⟩)) 3 = some (.pointer (some ⟨b, o + 3, none⟩)) from by intros; kernel_rfl)
theorem typs : type_of% typ1 ∧ type_of% typ2 ∧ type_of% typ3 ∧ type_of% typ4 ∧ type_of% typ5 ∧ type_of% typ6 :=
  ⟨typ1, typ2, typ3, typ4, typ5, typ6⟩
end Go.Proofs.YtncmgiddcefpcaaGreatDoor
