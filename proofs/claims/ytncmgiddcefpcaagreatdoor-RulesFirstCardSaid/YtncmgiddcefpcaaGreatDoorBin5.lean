/- Texts joined: what the claim needs of them. No condition. -/
import Derived.Test.YtncmgiddcefpcaaGreatDoorEvM3
import Derived.Test.YtncmgiddcefpcaaGreatDoorBin4
namespace Go.Proofs.YtncmgiddcefpcaaGreatDoor
open Go Go.Ev
set_option maxRecDepth 100000
theorem typ1 : type_of% (
  And.intro (L_len (C := kon) (t := 9) (by kernel_rfl)) <|
  And.intro (L_lenStr (C := kon) (t := 9) (by kernel_rfl)) <|
  And.intro (L_bin (C := kon) (t := 3) (by kernel_rfl)) <|
  And.intro (L_cmp (C := kon) (t := 25) (by kernel_rfl) (op := .eql) rfl) <|
  And.intro (L_cmpE (C := kon) (t := 25) (by kernel_rfl)) <|
  And.intro (show ∀ (x y : Operand) (h : Hp) (p i : Nat), cmpV kon.P .eql 25 x y h (.pointer (some ⟨p, i, none⟩)) (.pointer (none)) = some (.bool false) from by intros; kernel_rfl) <|
  And.intro (show ∀ (x y : Operand) (h : Hp) (p i : Nat), cmpV kon.P .eql 25 x y h (.pointer (none)) (.pointer (some ⟨p, i, none⟩)) = some (.bool false) from by intros; kernel_rfl) <|
  And.intro (show ∀ (x y : Operand) (h : Hp), cmpV kon.P .eql 25 x y h (.pointer (none)) (.pointer (none)) = some (.bool true) from by intros; kernel_rfl) <|
  And.intro (L_len (C := kon) (t := 22) (by kernel_rfl)) <|
  And.intro (L_lenSl (C := kon) (t := 22) (e := 36) (by kernel_rfl)) <|
  And.intro (L_indexAddr (C := kon) (t := 22) (e := 36) (n := 14) (by kernel_rfl) (by kernel_rfl)) <|
  And.intro (L_loadA (C := kon) (t := 36) (n := 14) (by kernel_rfl) (by kernel_rfl)) <|
  And.intro (show ∀ (n1 : Int) (s2 : ByteArray), evBuild kon.P 40 [(0, (.int .i64 n1)), (3, (.string s2))] = some (.agg #[.int .i64 n1, .int .i64 0, .int .i64 0, .string s2, .bool false, .slice none 0 0, .int .i64 0, .int .i64 0, .int .i64 0, .int .i64 0]) from by intros; kernel_rfl) <|
  And.intro (L_bin (C := kon) (t := 37) (by kernel_rfl)) <|
  And.intro (L_alloc (C := kon) (t := 40) (z := (.agg #[.int .i64 0, .int .i64 0, .int .i64 0, .string ByteArray.empty, .bool false, .slice none 0 0, .int .i64 0, .int .i64 0, .int .i64 0, .int .i64 0])) (cs := [.int .i64 0, .int .i64 0, .int .i64 0, .string ByteArray.empty, .bool false, .slice none 0 0, .int .i64 0, .int .i64 0, .int .i64 0, .int .i64 0]) (by kernel_rfl) (by kernel_rfl) (by kernel_rfl)) <|
  And.intro (L_store (C := kon) (t := 40) (n := 10) (by kernel_rfl)) <|
  And.intro (L_bin (C := kon) (t := 9) (by kernel_rfl)) <|
  And.intro (L_loadA (C := kon) (t := 40) (n := 10) (by kernel_rfl) (by kernel_rfl)) <|
  And.intro (L_len (C := kon) (t := 46) (by kernel_rfl)) <|
  And.intro (L_lenSl (C := kon) (t := 46) (e := 9) (by kernel_rfl)) <|
  And.intro (L_indexAddr (C := kon) (t := 46) (e := 9) (n := 1) (by kernel_rfl) (by kernel_rfl)) <|
  And.intro (L_loadC (C := kon) (t := 9) (by kernel_rfl)) <|
  And.intro (L_alloc (C := kon) (t := 34) (z := (.agg #[.int .i64 0, .int .i64 0, .int .i64 0, .string ByteArray.empty, .bool false, .slice none 0 0, .int .i64 0, .int .i64 0, .int .i64 0, .int .i64 0])) (cs := [.int .i64 0, .int .i64 0, .int .i64 0, .string ByteArray.empty, .bool false, .slice none 0 0, .int .i64 0, .int .i64 0, .int .i64 0, .int .i64 0]) (by kernel_rfl) (by kernel_rfl) (by kernel_rfl)) <|
  And.intro (L_store (C := kon) (t := 34) (n := 10) (by kernel_rfl)) <|
  And.intro (L_loadA (C := kon) (t := 34) (n := 10) (by kernel_rfl) (by kernel_rfl)) <|
  And.intro (L_loadA (C := kon) (t := 32) (n := 4) (by kernel_rfl) (by kernel_rfl)) <|
  And.intro (L_cmp (C := kon) (t := 25) (by kernel_rfl) (op := .neq) rfl) <|
  And.intro (L_cmpN (C := kon) (t := 25) (by kernel_rfl)) <|
  And.intro (show ∀ (x y : Operand) (h : Hp) (p i : Nat), cmpV kon.P .neq 25 x y h (.pointer (some ⟨p, i, none⟩)) (.pointer (none)) = some (.bool true) from by intros; kernel_rfl) <|
  And.intro (show ∀ (x y : Operand) (h : Hp) (p i : Nat), cmpV kon.P .neq 25 x y h (.pointer (none)) (.pointer (some ⟨p, i, none⟩)) = some (.bool true) from by intros; kernel_rfl) <|
  And.intro (show ∀ (x y : Operand) (h : Hp), cmpV kon.P .neq 25 x y h (.pointer (none)) (.pointer (none)) = some (.bool false) from by intros; kernel_rfl) <|
  And.intro (show ∀ (b1 : Bool) (b2 : Bool) (b3 : Bool), evBuild kon.P 62 [(0, (.bool b1)), (1, (.bool b2)), (2, (.bool b3))] = some (.agg #[.bool b1, .bool b2, .bool b3]) from by intros; kernel_rfl) <|
  And.intro (L_alloc (C := kon) (t := 62) (z := (.agg #[.bool false, .bool false, .bool false])) (cs := [.bool false, .bool false, .bool false]) (by kernel_rfl) (by kernel_rfl) (by kernel_rfl)) <|
  And.intro (L_store (C := kon) (t := 62) (n := 3) (by kernel_rfl)) <|
  And.intro (show ∀ (b o : Nat), evFieldAddr kon.P 60 (.pointer (some ⟨b, o, none⟩)) 2 = some (.pointer (some ⟨b, o + 2, none⟩)) from by intros; kernel_rfl) <|
  And.intro (L_store (C := kon) (t := 3) (n := 1) (by kernel_rfl)) <|
  And.intro (show ∀ (b o : Nat), evFieldAddr kon.P 60 (.pointer (some ⟨b, o, none⟩)) 0 = some (.pointer (some ⟨b, o + 0, none⟩)) from by intros; kernel_rfl) <|
  And.intro (L_loadA (C := kon) (t := 62) (n := 3) (by kernel_rfl) (by kernel_rfl)) <|
  And.intro (show ∀ (s1 : ByteArray) (b2 : Bool) (b3 : Bool) (b4 : Bool), evBuild kon.P 65 [(0, (.string s1)), (1, (.agg #[.bool b2, .bool b3, .bool b4]))] = some (.agg #[.string s1, .bool b2, .bool b3, .bool b4]) from by intros; kernel_rfl) <|
  (L_buildSlice (C := kon) (t := 30) (e := 65) (n := 4) (z := (.agg #[.string ByteArray.empty, .bool false, .bool false, .bool false])) (zs := [.string ByteArray.empty, .bool false, .bool false, .bool false]) (len := 1) (by kernel_rfl) (by kernel_rfl) (by kernel_rfl) (by kernel_rfl) (by kernel_rfl) (by kernel_rfl))) :=
  And.intro (L_len (C := kon) (t := 9) (by kernel_rfl)) <|
  And.intro (L_lenStr (C := kon) (t := 9) (by kernel_rfl)) <|
  And.intro (L_bin (C := kon) (t := 3) (by kernel_rfl)) <|
  And.intro (L_cmp (C := kon) (t := 25) (by kernel_rfl) (op := .eql) rfl) <|
  And.intro (L_cmpE (C := kon) (t := 25) (by kernel_rfl)) <|
  And.intro (show ∀ (x y : Operand) (h : Hp) (p i : Nat), cmpV kon.P .eql 25 x y h (.pointer (some ⟨p, i, none⟩)) (.pointer (none)) = some (.bool false) from by intros; kernel_rfl) <|
  And.intro (show ∀ (x y : Operand) (h : Hp) (p i : Nat), cmpV kon.P .eql 25 x y h (.pointer (none)) (.pointer (some ⟨p, i, none⟩)) = some (.bool false) from by intros; kernel_rfl) <|
  And.intro (show ∀ (x y : Operand) (h : Hp), cmpV kon.P .eql 25 x y h (.pointer (none)) (.pointer (none)) = some (.bool true) from by intros; kernel_rfl) <|
  And.intro (L_len (C := kon) (t := 22) (by kernel_rfl)) <|
  And.intro (L_lenSl (C := kon) (t := 22) (e := 36) (by kernel_rfl)) <|
  And.intro (L_indexAddr (C := kon) (t := 22) (e := 36) (n := 14) (by kernel_rfl) (by kernel_rfl)) <|
  And.intro (L_loadA (C := kon) (t := 36) (n := 14) (by kernel_rfl) (by kernel_rfl)) <|
  And.intro (show ∀ (n1 : Int) (s2 : ByteArray), evBuild kon.P 40 [(0, (.int .i64 n1)), (3, (.string s2))] = some (.agg #[.int .i64 n1, .int .i64 0, .int .i64 0, .string s2, .bool false, .slice none 0 0, .int .i64 0, .int .i64 0, .int .i64 0, .int .i64 0]) from by intros; kernel_rfl) <|
  And.intro (L_bin (C := kon) (t := 37) (by kernel_rfl)) <|
  And.intro (L_alloc (C := kon) (t := 40) (z := (.agg #[.int .i64 0, .int .i64 0, .int .i64 0, .string ByteArray.empty, .bool false, .slice none 0 0, .int .i64 0, .int .i64 0, .int .i64 0, .int .i64 0])) (cs := [.int .i64 0, .int .i64 0, .int .i64 0, .string ByteArray.empty, .bool false, .slice none 0 0, .int .i64 0, .int .i64 0, .int .i64 0, .int .i64 0]) (by kernel_rfl) (by kernel_rfl) (by kernel_rfl)) <|
  And.intro (L_store (C := kon) (t := 40) (n := 10) (by kernel_rfl)) <|
  And.intro (L_bin (C := kon) (t := 9) (by kernel_rfl)) <|
  And.intro (L_loadA (C := kon) (t := 40) (n := 10) (by kernel_rfl) (by kernel_rfl)) <|
  And.intro (L_len (C := kon) (t := 46) (by kernel_rfl)) <|
  And.intro (L_lenSl (C := kon) (t := 46) (e := 9) (by kernel_rfl)) <|
  And.intro (L_indexAddr (C := kon) (t := 46) (e := 9) (n := 1) (by kernel_rfl) (by kernel_rfl)) <|
  And.intro (L_loadC (C := kon) (t := 9) (by kernel_rfl)) <|
  And.intro (L_alloc (C := kon) (t := 34) (z := (.agg #[.int .i64 0, .int .i64 0, .int .i64 0, .string ByteArray.empty, .bool false, .slice none 0 0, .int .i64 0, .int .i64 0, .int .i64 0, .int .i64 0])) (cs := [.int .i64 0, .int .i64 0, .int .i64 0, .string ByteArray.empty, .bool false, .slice none 0 0, .int .i64 0, .int .i64 0, .int .i64 0, .int .i64 0]) (by kernel_rfl) (by kernel_rfl) (by kernel_rfl)) <|
  And.intro (L_store (C := kon) (t := 34) (n := 10) (by kernel_rfl)) <|
  And.intro (L_loadA (C := kon) (t := 34) (n := 10) (by kernel_rfl) (by kernel_rfl)) <|
  And.intro (L_loadA (C := kon) (t := 32) (n := 4) (by kernel_rfl) (by kernel_rfl)) <|
  And.intro (L_cmp (C := kon) (t := 25) (by kernel_rfl) (op := .neq) rfl) <|
  And.intro (L_cmpN (C := kon) (t := 25) (by kernel_rfl)) <|
  And.intro (show ∀ (x y : Operand) (h : Hp) (p i : Nat), cmpV kon.P .neq 25 x y h (.pointer (some ⟨p, i, none⟩)) (.pointer (none)) = some (.bool true) from by intros; kernel_rfl) <|
  And.intro (show ∀ (x y : Operand) (h : Hp) (p i : Nat), cmpV kon.P .neq 25 x y h (.pointer (none)) (.pointer (some ⟨p, i, none⟩)) = some (.bool true) from by intros; kernel_rfl) <|
  And.intro (show ∀ (x y : Operand) (h : Hp), cmpV kon.P .neq 25 x y h (.pointer (none)) (.pointer (none)) = some (.bool false) from by intros; kernel_rfl) <|
  And.intro (show ∀ (b1 : Bool) (b2 : Bool) (b3 : Bool), evBuild kon.P 62 [(0, (.bool b1)), (1, (.bool b2)), (2, (.bool b3))] = some (.agg #[.bool b1, .bool b2, .bool b3]) from by intros; kernel_rfl) <|
  And.intro (L_alloc (C := kon) (t := 62) (z := (.agg #[.bool false, .bool false, .bool false])) (cs := [.bool false, .bool false, .bool false]) (by kernel_rfl) (by kernel_rfl) (by kernel_rfl)) <|
  And.intro (L_store (C := kon) (t := 62) (n := 3) (by kernel_rfl)) <|
  And.intro (show ∀ (b o : Nat), evFieldAddr kon.P 60 (.pointer (some ⟨b, o, none⟩)) 2 = some (.pointer (some ⟨b, o + 2, none⟩)) from by intros; kernel_rfl) <|
  And.intro (L_store (C := kon) (t := 3) (n := 1) (by kernel_rfl)) <|
  And.intro (show ∀ (b o : Nat), evFieldAddr kon.P 60 (.pointer (some ⟨b, o, none⟩)) 0 = some (.pointer (some ⟨b, o + 0, none⟩)) from by intros; kernel_rfl) <|
  And.intro (L_loadA (C := kon) (t := 62) (n := 3) (by kernel_rfl) (by kernel_rfl)) <|
  And.intro (show ∀ (s1 : ByteArray) (b2 : Bool) (b3 : Bool) (b4 : Bool), evBuild kon.P 65 [(0, (.string s1)), (1, (.agg #[.bool b2, .bool b3, .bool b4]))] = some (.agg #[.string s1, .bool b2, .bool b3, .bool b4]) from by intros; kernel_rfl) <|
  (L_buildSlice (C := kon) (t := 30) (e := 65) (n := 4) (z := (.agg #[.string ByteArray.empty, .bool false, .bool false, .bool false])) (zs := [.string ByteArray.empty, .bool false, .bool false, .bool false]) (len := 1) (by kernel_rfl) (by kernel_rfl) (by kernel_rfl) (by kernel_rfl) (by kernel_rfl) (by kernel_rfl))
theorem typ2 : type_of% (
  And.intro (show ∀ (s1 : ByteArray) (b2 : Bool) (b3 : Bool) (b4 : Bool), litRow 65 4 1 [.string ByteArray.empty, .bool false, .bool false, .bool false] [(0, (.agg #[.string s1, .bool b2, .bool b3, .bool b4]))] = some (mkRow 65 1 [.string s1, .bool b2, .bool b3, .bool b4]) from by intros; kernel_rfl) <|
  And.intro (show ∀ (n1 : Int) (n2 : Int) (n3 : Int), evBuild kon.P 32 [(0, (.int .i64 n1)), (1, (.int .i64 n2)), (2, (.int .i64 n3))] = some (.agg #[.int .i64 n1, .int .i64 n2, .int .i64 n3, .int .i64 0]) from by intros; kernel_rfl) <|
  And.intro (show ∀ (n1 : Int) (n2 : Int) (a3 : Option Addr) (k4 : Nat) (k5 : Nat) (n6 : Int) (n7 : Int) (n8 : Int) (n9 : Int), evBuild kon.P 40 [(0, (.int .i64 n1)), (1, (.int .i64 n2)), (5, (.slice a3 k4 k5)), (6, (.agg #[.int .i64 n6, .int .i64 n7, .int .i64 n8, .int .i64 n9]))] = some (.agg #[.int .i64 n1, .int .i64 n2, .int .i64 0, .string ByteArray.empty, .bool false, .slice a3 k4 k5, .int .i64 n6, .int .i64 n7, .int .i64 n8, .int .i64 n9]) from by intros; kernel_rfl) <|
  And.intro (L_buildSlice (C := kon) (t := 46) (e := 9) (n := 1) (z := (.string ByteArray.empty)) (zs := [.string ByteArray.empty]) (len := 1) (by kernel_rfl) (by kernel_rfl) (by kernel_rfl) (by kernel_rfl) (by kernel_rfl) (by kernel_rfl)) <|
  And.intro (show ∀ (s1 : ByteArray), litRow 9 1 1 [.string ByteArray.empty] [(0, (.string s1))] = some (mkRow 9 1 [.string s1]) from by intros; kernel_rfl) <|
  And.intro (L_loadA (C := kon) (t := 60) (n := 7) (by kernel_rfl) (by kernel_rfl)) <|
  And.intro (L_buildSlice (C := kon) (t := 68) (e := 60) (n := 7) (z := (.agg #[.int .i64 0, .int .i64 0, .int .i64 0, .int .i64 0, .int .i64 0, .int .i64 0, .int .i64 0])) (zs := [.int .i64 0, .int .i64 0, .int .i64 0, .int .i64 0, .int .i64 0, .int .i64 0, .int .i64 0]) (len := 1) (by kernel_rfl) (by kernel_rfl) (by kernel_rfl) (by kernel_rfl) (by kernel_rfl) (by kernel_rfl)) <|
  And.intro (show ∀ (n1 : Int) (n2 : Int) (n3 : Int) (n4 : Int) (n5 : Int) (n6 : Int) (n7 : Int), litRow 60 7 1 [.int .i64 0, .int .i64 0, .int .i64 0, .int .i64 0, .int .i64 0, .int .i64 0, .int .i64 0] [(0, (.agg #[.int .i64 n1, .int .i64 n2, .int .i64 n3, .int .i64 n4, .int .i64 n5, .int .i64 n6, .int .i64 n7]))] = some (mkRow 60 1 [.int .i64 n1, .int .i64 n2, .int .i64 n3, .int .i64 n4, .int .i64 n5, .int .i64 n6, .int .i64 n7]) from by intros; kernel_rfl) <|
  And.intro (show ∀ (n1 : Int) (n2 : Int), evBuild kon.P 32 [(1, (.int .i64 n1)), (2, (.int .i64 n2))] = some (.agg #[.int .i64 0, .int .i64 n1, .int .i64 n2, .int .i64 0]) from by intros; kernel_rfl) <|
  And.intro (show ∀ (n1 : Int) (n2 : Int) (a3 : Option Addr) (k4 : Nat) (k5 : Nat) (n6 : Int) (n7 : Int) (n8 : Int) (n9 : Int), evBuild kon.P 34 [(0, (.int .i64 n1)), (1, (.int .i64 n2)), (5, (.slice a3 k4 k5)), (6, (.agg #[.int .i64 n6, .int .i64 n7, .int .i64 n8, .int .i64 n9]))] = some (.agg #[.int .i64 n1, .int .i64 n2, .int .i64 0, .string ByteArray.empty, .bool false, .slice a3 k4 k5, .int .i64 n6, .int .i64 n7, .int .i64 n8, .int .i64 n9]) from by intros; kernel_rfl) <|
  And.intro (L_bin (C := kon) (t := 4) (by kernel_rfl)) <|
  And.intro (show ∀ (x y : Operand) (a c : Bool), evBin kon.P .neq 4 x y (.bool a) (.bool c) = some (.bool (!(a == c))) from by intros; kernel_rfl) <|
  And.intro (show ∀ (x y : Operand) (a c : Bool), evBin kon.P .eql 4 x y (.bool a) (.bool c) = some (.bool (a == c)) from by intros; kernel_rfl) <|
  And.intro (L_len (C := kon) (t := 68) (by kernel_rfl)) <|
  And.intro (L_lenSl (C := kon) (t := 68) (e := 60) (by kernel_rfl)) <|
  And.intro (L_indexAddr (C := kon) (t := 68) (e := 60) (n := 7) (by kernel_rfl) (by kernel_rfl)) <|
  And.intro (show ∀ (b o : Nat), evFieldAddr kon.P 60 (.pointer (some ⟨b, o, none⟩)) 6 = some (.pointer (some ⟨b, o + 6, none⟩)) from by intros; kernel_rfl) <|
  And.intro (L_loadC (C := kon) (t := 3) (by kernel_rfl)) <|
  And.intro (show ∀ (b o : Nat), evFieldAddr kon.P 60 (.pointer (some ⟨b, o, none⟩)) 5 = some (.pointer (some ⟨b, o + 5, none⟩)) from by intros; kernel_rfl) <|
  And.intro (show ∀ (b o : Nat), evFieldAddr kon.P 60 (.pointer (some ⟨b, o, none⟩)) 1 = some (.pointer (some ⟨b, o + 1, none⟩)) from by intros; kernel_rfl) <|
  And.intro (L_buildSlice (C := kon) (t := 77) (e := 3) (n := 1) (z := (.int .i64 0)) (zs := [.int .i64 0]) (len := 1) (by kernel_rfl) (by kernel_rfl) (by kernel_rfl) (by kernel_rfl) (by kernel_rfl) (by kernel_rfl)) <|
  And.intro (show ∀ (n1 : Int), litRow 3 1 1 [.int .i64 0] [(0, (.int .i64 n1))] = some (mkRow 3 1 [.int .i64 n1]) from by intros; kernel_rfl) <|
  And.intro (L_append (C := kon) (t := 77) (u := 77) (e := 3) (by kernel_rfl)) <|
  And.intro (L_len (C := kon) (t := 77) (by kernel_rfl)) <|
  And.intro (L_lenSl (C := kon) (t := 77) (e := 3) (by kernel_rfl)) <|
  And.intro (L_indexAddr (C := kon) (t := 77) (e := 3) (n := 1) (by kernel_rfl) (by kernel_rfl)) <|
  And.intro (L_buildSlice (C := kon) (t := 46) (e := 9) (n := 1) (z := (.string ByteArray.empty)) (zs := [.string ByteArray.empty]) (len := 2) (by kernel_rfl) (by kernel_rfl) (by kernel_rfl) (by kernel_rfl) (by kernel_rfl) (by kernel_rfl)) <|
  And.intro (show ∀ (s1 : ByteArray) (s2 : ByteArray), litRow 9 1 2 [.string ByteArray.empty] [(0, (.string s1)), (1, (.string s2))] = some (mkRow 9 2 [.string s1, .string s2]) from by intros; kernel_rfl) <|
  And.intro (L_convInt (C := kon) (s := 5) (t := 3) (k := .i64) (by kernel_rfl) (by kernel_rfl)) <|
  And.intro (show ∀ (n : Int), prunS kon.P (convert 5 3 (.int .u8 n)) = some (.int .i64 (IntKind.i64.wrap n)) from by intros; kernel_rfl) <|
  And.intro (L_sliceSl (C := kon) (t := 68) (e := 60) (n := 7) (by kernel_rfl) (by kernel_rfl)) <|
  And.intro (L_len (C := kon) (t := 81) (by kernel_rfl)) <|
  And.intro (L_lenSl (C := kon) (t := 81) (e := 83) (by kernel_rfl)) <|
  And.intro (L_indexAddr (C := kon) (t := 81) (e := 83) (n := 2) (by kernel_rfl) (by kernel_rfl)) <|
  And.intro (show ∀ (b o : Nat), evFieldAddr kon.P 83 (.pointer (some ⟨b, o, none⟩)) 1 = some (.pointer (some ⟨b, o + 1, none⟩)) from by intros; kernel_rfl) <|
  And.intro (L_sliceSl (C := kon) (t := 81) (e := 83) (n := 2) (by kernel_rfl) (by kernel_rfl)) <|
  And.intro (show ∀ (b o : Nat), evFieldAddr kon.P 40 (.pointer (some ⟨b, o, none⟩)) 0 = some (.pointer (some ⟨b, o + 0, none⟩)) from by intros; kernel_rfl) <|
  And.intro (show ∀ (n1 : Int), evBuild kon.P 40 [(0, (.int .i64 n1))] = some (.agg #[.int .i64 n1, .int .i64 0, .int .i64 0, .string ByteArray.empty, .bool false, .slice none 0 0, .int .i64 0, .int .i64 0, .int .i64 0, .int .i64 0]) from by intros; kernel_rfl) <|
  And.intro (show ∀ (b o : Nat), evFieldAddr kon.P 36 (.pointer (some ⟨b, o, none⟩)) 2 = some (.pointer (some ⟨b, o + 2, none⟩)) from by intros; kernel_rfl) <|
  (show ∀ (b o : Nat), evFieldAddr kon.P 36 (.pointer (some ⟨b, o, none⟩)) 3 = some (.pointer (some ⟨b, o + 3, none⟩)) from by intros; kernel_rfl)) :=
  And.intro (show ∀ (s1 : ByteArray) (b2 : Bool) (b3 : Bool) (b4 : Bool), litRow 65 4 1 [.string ByteArray.empty, .bool false, .bool false, .bool false] [(0, (.agg #[.string s1, .bool b2, .bool b3, .bool b4]))] = some (mkRow 65 1 [.string s1, .bool b2, .bool b3, .bool b4]) from by intros; kernel_rfl) <|
  And.intro (show ∀ (n1 : Int) (n2 : Int) (n3 : Int), evBuild kon.P 32 [(0, (.int .i64 n1)), (1, (.int .i64 n2)), (2, (.int .i64 n3))] = some (.agg #[.int .i64 n1, .int .i64 n2, .int .i64 n3, .int .i64 0]) from by intros; kernel_rfl) <|
  And.intro (show ∀ (n1 : Int) (n2 : Int) (a3 : Option Addr) (k4 : Nat) (k5 : Nat) (n6 : Int) (n7 : Int) (n8 : Int) (n9 : Int), evBuild kon.P 40 [(0, (.int .i64 n1)), (1, (.int .i64 n2)), (5, (.slice a3 k4 k5)), (6, (.agg #[.int .i64 n6, .int .i64 n7, .int .i64 n8, .int .i64 n9]))] = some (.agg #[.int .i64 n1, .int .i64 n2, .int .i64 0, .string ByteArray.empty, .bool false, .slice a3 k4 k5, .int .i64 n6, .int .i64 n7, .int .i64 n8, .int .i64 n9]) from by intros; kernel_rfl) <|
  And.intro (L_buildSlice (C := kon) (t := 46) (e := 9) (n := 1) (z := (.string ByteArray.empty)) (zs := [.string ByteArray.empty]) (len := 1) (by kernel_rfl) (by kernel_rfl) (by kernel_rfl) (by kernel_rfl) (by kernel_rfl) (by kernel_rfl)) <|
  And.intro (show ∀ (s1 : ByteArray), litRow 9 1 1 [.string ByteArray.empty] [(0, (.string s1))] = some (mkRow 9 1 [.string s1]) from by intros; kernel_rfl) <|
  And.intro (L_loadA (C := kon) (t := 60) (n := 7) (by kernel_rfl) (by kernel_rfl)) <|
  And.intro (L_buildSlice (C := kon) (t := 68) (e := 60) (n := 7) (z := (.agg #[.int .i64 0, .int .i64 0, .int .i64 0, .int .i64 0, .int .i64 0, .int .i64 0, .int .i64 0])) (zs := [.int .i64 0, .int .i64 0, .int .i64 0, .int .i64 0, .int .i64 0, .int .i64 0, .int .i64 0]) (len := 1) (by kernel_rfl) (by kernel_rfl) (by kernel_rfl) (by kernel_rfl) (by kernel_rfl) (by kernel_rfl)) <|
  And.intro (show ∀ (n1 : Int) (n2 : Int) (n3 : Int) (n4 : Int) (n5 : Int) (n6 : Int) (n7 : Int), litRow 60 7 1 [.int .i64 0, .int .i64 0, .int .i64 0, .int .i64 0, .int .i64 0, .int .i64 0, .int .i64 0] [(0, (.agg #[.int .i64 n1, .int .i64 n2, .int .i64 n3, .int .i64 n4, .int .i64 n5, .int .i64 n6, .int .i64 n7]))] = some (mkRow 60 1 [.int .i64 n1, .int .i64 n2, .int .i64 n3, .int .i64 n4, .int .i64 n5, .int .i64 n6, .int .i64 n7]) from by intros; kernel_rfl) <|
  And.intro (show ∀ (n1 : Int) (n2 : Int), evBuild kon.P 32 [(1, (.int .i64 n1)), (2, (.int .i64 n2))] = some (.agg #[.int .i64 0, .int .i64 n1, .int .i64 n2, .int .i64 0]) from by intros; kernel_rfl) <|
  And.intro (show ∀ (n1 : Int) (n2 : Int) (a3 : Option Addr) (k4 : Nat) (k5 : Nat) (n6 : Int) (n7 : Int) (n8 : Int) (n9 : Int), evBuild kon.P 34 [(0, (.int .i64 n1)), (1, (.int .i64 n2)), (5, (.slice a3 k4 k5)), (6, (.agg #[.int .i64 n6, .int .i64 n7, .int .i64 n8, .int .i64 n9]))] = some (.agg #[.int .i64 n1, .int .i64 n2, .int .i64 0, .string ByteArray.empty, .bool false, .slice a3 k4 k5, .int .i64 n6, .int .i64 n7, .int .i64 n8, .int .i64 n9]) from by intros; kernel_rfl) <|
  And.intro (L_bin (C := kon) (t := 4) (by kernel_rfl)) <|
  And.intro (show ∀ (x y : Operand) (a c : Bool), evBin kon.P .neq 4 x y (.bool a) (.bool c) = some (.bool (!(a == c))) from by intros; kernel_rfl) <|
  And.intro (show ∀ (x y : Operand) (a c : Bool), evBin kon.P .eql 4 x y (.bool a) (.bool c) = some (.bool (a == c)) from by intros; kernel_rfl) <|
  And.intro (L_len (C := kon) (t := 68) (by kernel_rfl)) <|
  And.intro (L_lenSl (C := kon) (t := 68) (e := 60) (by kernel_rfl)) <|
  And.intro (L_indexAddr (C := kon) (t := 68) (e := 60) (n := 7) (by kernel_rfl) (by kernel_rfl)) <|
  And.intro (show ∀ (b o : Nat), evFieldAddr kon.P 60 (.pointer (some ⟨b, o, none⟩)) 6 = some (.pointer (some ⟨b, o + 6, none⟩)) from by intros; kernel_rfl) <|
  And.intro (L_loadC (C := kon) (t := 3) (by kernel_rfl)) <|
  And.intro (show ∀ (b o : Nat), evFieldAddr kon.P 60 (.pointer (some ⟨b, o, none⟩)) 5 = some (.pointer (some ⟨b, o + 5, none⟩)) from by intros; kernel_rfl) <|
  And.intro (show ∀ (b o : Nat), evFieldAddr kon.P 60 (.pointer (some ⟨b, o, none⟩)) 1 = some (.pointer (some ⟨b, o + 1, none⟩)) from by intros; kernel_rfl) <|
  And.intro (L_buildSlice (C := kon) (t := 77) (e := 3) (n := 1) (z := (.int .i64 0)) (zs := [.int .i64 0]) (len := 1) (by kernel_rfl) (by kernel_rfl) (by kernel_rfl) (by kernel_rfl) (by kernel_rfl) (by kernel_rfl)) <|
  And.intro (show ∀ (n1 : Int), litRow 3 1 1 [.int .i64 0] [(0, (.int .i64 n1))] = some (mkRow 3 1 [.int .i64 n1]) from by intros; kernel_rfl) <|
  And.intro (L_append (C := kon) (t := 77) (u := 77) (e := 3) (by kernel_rfl)) <|
  And.intro (L_len (C := kon) (t := 77) (by kernel_rfl)) <|
  And.intro (L_lenSl (C := kon) (t := 77) (e := 3) (by kernel_rfl)) <|
  And.intro (L_indexAddr (C := kon) (t := 77) (e := 3) (n := 1) (by kernel_rfl) (by kernel_rfl)) <|
  And.intro (L_buildSlice (C := kon) (t := 46) (e := 9) (n := 1) (z := (.string ByteArray.empty)) (zs := [.string ByteArray.empty]) (len := 2) (by kernel_rfl) (by kernel_rfl) (by kernel_rfl) (by kernel_rfl) (by kernel_rfl) (by kernel_rfl)) <|
  And.intro (show ∀ (s1 : ByteArray) (s2 : ByteArray), litRow 9 1 2 [.string ByteArray.empty] [(0, (.string s1)), (1, (.string s2))] = some (mkRow 9 2 [.string s1, .string s2]) from by intros; kernel_rfl) <|
  And.intro (L_convInt (C := kon) (s := 5) (t := 3) (k := .i64) (by kernel_rfl) (by kernel_rfl)) <|
  And.intro (show ∀ (n : Int), prunS kon.P (convert 5 3 (.int .u8 n)) = some (.int .i64 (IntKind.i64.wrap n)) from by intros; kernel_rfl) <|
  And.intro (L_sliceSl (C := kon) (t := 68) (e := 60) (n := 7) (by kernel_rfl) (by kernel_rfl)) <|
  And.intro (L_len (C := kon) (t := 81) (by kernel_rfl)) <|
  And.intro (L_lenSl (C := kon) (t := 81) (e := 83) (by kernel_rfl)) <|
  And.intro (L_indexAddr (C := kon) (t := 81) (e := 83) (n := 2) (by kernel_rfl) (by kernel_rfl)) <|
  And.intro (show ∀ (b o : Nat), evFieldAddr kon.P 83 (.pointer (some ⟨b, o, none⟩)) 1 = some (.pointer (some ⟨b, o + 1, none⟩)) from by intros; kernel_rfl) <|
  And.intro (L_sliceSl (C := kon) (t := 81) (e := 83) (n := 2) (by kernel_rfl) (by kernel_rfl)) <|
  And.intro (show ∀ (b o : Nat), evFieldAddr kon.P 40 (.pointer (some ⟨b, o, none⟩)) 0 = some (.pointer (some ⟨b, o + 0, none⟩)) from by intros; kernel_rfl) <|
  And.intro (show ∀ (n1 : Int), evBuild kon.P 40 [(0, (.int .i64 n1))] = some (.agg #[.int .i64 n1, .int .i64 0, .int .i64 0, .string ByteArray.empty, .bool false, .slice none 0 0, .int .i64 0, .int .i64 0, .int .i64 0, .int .i64 0]) from by intros; kernel_rfl) <|
  And.intro (show ∀ (b o : Nat), evFieldAddr kon.P 36 (.pointer (some ⟨b, o, none⟩)) 2 = some (.pointer (some ⟨b, o + 2, none⟩)) from by intros; kernel_rfl) <|
  (show ∀ (b o : Nat), evFieldAddr kon.P 36 (.pointer (some ⟨b, o, none⟩)) 3 = some (.pointer (some ⟨b, o + 3, none⟩)) from by intros; kernel_rfl)
theorem typ3 : type_of% (
  And.intro (show ∀ (b o : Nat), evFieldAddr kon.P 36 (.pointer (some ⟨b, o, none⟩)) 4 = some (.pointer (some ⟨b, o + 4, none⟩)) from by intros; kernel_rfl) <|
  And.intro (show ∀ (b o : Nat), evFieldAddr kon.P 34 (.pointer (some ⟨b, o, none⟩)) 3 = some (.pointer (some ⟨b, o + 3, none⟩)) from by intros; kernel_rfl) <|
  And.intro (show ∀ (b o : Nat), evFieldAddr kon.P 34 (.pointer (some ⟨b, o, none⟩)) 5 = some (.pointer (some ⟨b, o + 5, none⟩)) from by intros; kernel_rfl) <|
  And.intro (L_loadC (C := kon) (t := 30) (by kernel_rfl)) <|
  And.intro (L_len (C := kon) (t := 30) (by kernel_rfl)) <|
  And.intro (L_lenSl (C := kon) (t := 30) (e := 65) (by kernel_rfl)) <|
  And.intro (L_makeMap (C := kon) (t := 88) (kt := 149) (et := 106) (by kernel_rfl)) <|
  And.intro (L_makeMap (C := kon) (t := 89) (kt := 3) (et := 3) (by kernel_rfl)) <|
  And.intro (L_makeMap (C := kon) (t := 90) (kt := 3) (et := 106) (by kernel_rfl)) <|
  And.intro (show ∀ (m1 : Option Nat) (m2 : Option Nat) (m3 : Option Nat), evBuild kon.P 92 [(0, (.map m1)), (1, (.map m2)), (2, (.map m3))] = some (.agg #[.map m1, .map m2, .map m3, .int .i64 0]) from by intros; kernel_rfl) <|
  And.intro (L_buildSlice (C := kon) (t := 93) (e := 4) (n := 1) (z := (.bool false)) (zs := [.bool false]) (len := 1) (by kernel_rfl) (by kernel_rfl) (by kernel_rfl) (by kernel_rfl) (by kernel_rfl) (by kernel_rfl)) <|
  And.intro (show ∀ (b1 : Bool), litRow 4 1 1 [.bool false] [(0, (.bool b1))] = some (mkRow 4 1 [.bool b1]) from by intros; kernel_rfl) <|
  And.intro (show ∀ (a1 : Option Addr) (k2 : Nat) (k3 : Nat), evBuild kon.P 97 [(2, (.slice a1 k2 k3))] = some (.agg #[.slice none 0 0, .slice none 0 0, .slice a1 k2 k3]) from by intros; kernel_rfl) <|
  And.intro (show ∀ (b o : Nat), evFieldAddr kon.P 36 (.pointer (some ⟨b, o, none⟩)) 0 = some (.pointer (some ⟨b, o + 0, none⟩)) from by intros; kernel_rfl) <|
  And.intro (show ∀ (b o : Nat), evFieldAddr kon.P 36 (.pointer (some ⟨b, o, none⟩)) 1 = some (.pointer (some ⟨b, o + 1, none⟩)) from by intros; kernel_rfl) <|
  And.intro (show ∀ (b o : Nat), evFieldAddr kon.P 34 (.pointer (some ⟨b, o, none⟩)) 6 = some (.pointer (some ⟨b, o + 6, none⟩)) from by intros; kernel_rfl) <|
  And.intro (L_cmp (C := kon) (t := 106) (by kernel_rfl) (op := .neq) rfl) <|
  And.intro (L_cmpN (C := kon) (t := 106) (by kernel_rfl)) <|
  And.intro (show ∀ (x y : Operand) (h : Hp) (p i : Nat), cmpV kon.P .neq 106 x y h (.pointer (some ⟨p, i, none⟩)) (.pointer (none)) = some (.bool true) from by intros; kernel_rfl) <|
  And.intro (show ∀ (x y : Operand) (h : Hp) (p i : Nat), cmpV kon.P .neq 106 x y h (.pointer (none)) (.pointer (some ⟨p, i, none⟩)) = some (.bool true) from by intros; kernel_rfl) <|
  And.intro (show ∀ (x y : Operand) (h : Hp), cmpV kon.P .neq 106 x y h (.pointer (none)) (.pointer (none)) = some (.bool false) from by intros; kernel_rfl) <|
  And.intro (show ∀ (n1 : Int) (n2 : Int) (n3 : Int) (s4 : ByteArray) (b5 : Bool) (a6 : Option Addr) (k7 : Nat) (k8 : Nat) (n9 : Int) (n10 : Int) (n11 : Int) (n12 : Int) (n13 : Int), evBuild kon.P 110 [(0, (.agg #[.int .i64 n1, .int .i64 n2, .int .i64 n3, .string s4, .bool b5, .slice a6 k7 k8, .int .i64 n9, .int .i64 n10, .int .i64 n11, .int .i64 n12])), (1, (.int .i64 n13))] = some (.agg #[.int .i64 n1, .int .i64 n2, .int .i64 n3, .string s4, .bool b5, .slice a6 k7 k8, .int .i64 n9, .int .i64 n10, .int .i64 n11, .int .i64 n12, .int .i64 n13, .int .i64 0]) from by intros; kernel_rfl) <|
  And.intro (show ∀ (b o : Nat), evFieldAddr kon.P 92 (.pointer (some ⟨b, o, none⟩)) 2 = some (.pointer (some ⟨b, o + 2, none⟩)) from by intros; kernel_rfl) <|
  And.intro (L_loadC (C := kon) (t := 90) (by kernel_rfl)) <|
  And.intro (show ∀ (b o : Nat), evFieldAddr kon.P 40 (.pointer (some ⟨b, o, none⟩)) 1 = some (.pointer (some ⟨b, o + 1, none⟩)) from by intros; kernel_rfl) <|
  And.intro (show ∀ (b o : Nat), evFieldAddr kon.P 92 (.pointer (some ⟨b, o, none⟩)) 3 = some (.pointer (some ⟨b, o + 3, none⟩)) from by intros; kernel_rfl) <|
  And.intro (show ∀ (b o : Nat), evFieldAddr kon.P 92 (.pointer (some ⟨b, o, none⟩)) 1 = some (.pointer (some ⟨b, o + 1, none⟩)) from by intros; kernel_rfl) <|
  And.intro (L_loadC (C := kon) (t := 89) (by kernel_rfl)) <|
  And.intro (show ∀ (b o : Nat), evFieldAddr kon.P 40 (.pointer (some ⟨b, o, none⟩)) 2 = some (.pointer (some ⟨b, o + 2, none⟩)) from by intros; kernel_rfl) <|
  And.intro (show evBuild kon.P 40 [] = some (.agg #[.int .i64 0, .int .i64 0, .int .i64 0, .string ByteArray.empty, .bool false, .slice none 0 0, .int .i64 0, .int .i64 0, .int .i64 0, .int .i64 0]) from by intros; kernel_rfl) <|
  And.intro (show ∀ (b o : Nat), evFieldAddr kon.P 34 (.pointer (some ⟨b, o, none⟩)) 0 = some (.pointer (some ⟨b, o + 0, none⟩)) from by intros; kernel_rfl) <|
  And.intro (show ∀ (b o : Nat), evFieldAddr kon.P 34 (.pointer (some ⟨b, o, none⟩)) 1 = some (.pointer (some ⟨b, o + 1, none⟩)) from by intros; kernel_rfl) <|
  And.intro (show ∀ (b o : Nat), evFieldAddr kon.P 34 (.pointer (some ⟨b, o, none⟩)) 2 = some (.pointer (some ⟨b, o + 2, none⟩)) from by intros; kernel_rfl) <|
  And.intro (show ∀ (b o : Nat), evFieldAddr kon.P 34 (.pointer (some ⟨b, o, none⟩)) 4 = some (.pointer (some ⟨b, o + 4, none⟩)) from by intros; kernel_rfl) <|
  And.intro (L_loadC (C := kon) (t := 4) (by kernel_rfl)) <|
  And.intro (L_bin (C := kon) (t := 32) (by kernel_rfl)) <|
  And.intro (L_indexAddr (C := kon) (t := 30) (e := 65) (n := 4) (by kernel_rfl) (by kernel_rfl)) <|
  And.intro (L_loadA (C := kon) (t := 65) (n := 4) (by kernel_rfl) (by kernel_rfl)) <|
  And.intro (L_bin (C := kon) (t := 65) (by kernel_rfl)) <|
  (show ∀ (b o : Nat), evFieldAddr kon.P 40 (.pointer (some ⟨b, o, none⟩)) 3 = some (.pointer (some ⟨b, o + 3, none⟩)) from by intros; kernel_rfl)) :=
  And.intro (show ∀ (b o : Nat), evFieldAddr kon.P 36 (.pointer (some ⟨b, o, none⟩)) 4 = some (.pointer (some ⟨b, o + 4, none⟩)) from by intros; kernel_rfl) <|
  And.intro (show ∀ (b o : Nat), evFieldAddr kon.P 34 (.pointer (some ⟨b, o, none⟩)) 3 = some (.pointer (some ⟨b, o + 3, none⟩)) from by intros; kernel_rfl) <|
  And.intro (show ∀ (b o : Nat), evFieldAddr kon.P 34 (.pointer (some ⟨b, o, none⟩)) 5 = some (.pointer (some ⟨b, o + 5, none⟩)) from by intros; kernel_rfl) <|
  And.intro (L_loadC (C := kon) (t := 30) (by kernel_rfl)) <|
  And.intro (L_len (C := kon) (t := 30) (by kernel_rfl)) <|
  And.intro (L_lenSl (C := kon) (t := 30) (e := 65) (by kernel_rfl)) <|
  And.intro (L_makeMap (C := kon) (t := 88) (kt := 149) (et := 106) (by kernel_rfl)) <|
  And.intro (L_makeMap (C := kon) (t := 89) (kt := 3) (et := 3) (by kernel_rfl)) <|
  And.intro (L_makeMap (C := kon) (t := 90) (kt := 3) (et := 106) (by kernel_rfl)) <|
  And.intro (show ∀ (m1 : Option Nat) (m2 : Option Nat) (m3 : Option Nat), evBuild kon.P 92 [(0, (.map m1)), (1, (.map m2)), (2, (.map m3))] = some (.agg #[.map m1, .map m2, .map m3, .int .i64 0]) from by intros; kernel_rfl) <|
  And.intro (L_buildSlice (C := kon) (t := 93) (e := 4) (n := 1) (z := (.bool false)) (zs := [.bool false]) (len := 1) (by kernel_rfl) (by kernel_rfl) (by kernel_rfl) (by kernel_rfl) (by kernel_rfl) (by kernel_rfl)) <|
  And.intro (show ∀ (b1 : Bool), litRow 4 1 1 [.bool false] [(0, (.bool b1))] = some (mkRow 4 1 [.bool b1]) from by intros; kernel_rfl) <|
  And.intro (show ∀ (a1 : Option Addr) (k2 : Nat) (k3 : Nat), evBuild kon.P 97 [(2, (.slice a1 k2 k3))] = some (.agg #[.slice none 0 0, .slice none 0 0, .slice a1 k2 k3]) from by intros; kernel_rfl) <|
  And.intro (show ∀ (b o : Nat), evFieldAddr kon.P 36 (.pointer (some ⟨b, o, none⟩)) 0 = some (.pointer (some ⟨b, o + 0, none⟩)) from by intros; kernel_rfl) <|
  And.intro (show ∀ (b o : Nat), evFieldAddr kon.P 36 (.pointer (some ⟨b, o, none⟩)) 1 = some (.pointer (some ⟨b, o + 1, none⟩)) from by intros; kernel_rfl) <|
  And.intro (show ∀ (b o : Nat), evFieldAddr kon.P 34 (.pointer (some ⟨b, o, none⟩)) 6 = some (.pointer (some ⟨b, o + 6, none⟩)) from by intros; kernel_rfl) <|
  And.intro (L_cmp (C := kon) (t := 106) (by kernel_rfl) (op := .neq) rfl) <|
  And.intro (L_cmpN (C := kon) (t := 106) (by kernel_rfl)) <|
  And.intro (show ∀ (x y : Operand) (h : Hp) (p i : Nat), cmpV kon.P .neq 106 x y h (.pointer (some ⟨p, i, none⟩)) (.pointer (none)) = some (.bool true) from by intros; kernel_rfl) <|
  And.intro (show ∀ (x y : Operand) (h : Hp) (p i : Nat), cmpV kon.P .neq 106 x y h (.pointer (none)) (.pointer (some ⟨p, i, none⟩)) = some (.bool true) from by intros; kernel_rfl) <|
  And.intro (show ∀ (x y : Operand) (h : Hp), cmpV kon.P .neq 106 x y h (.pointer (none)) (.pointer (none)) = some (.bool false) from by intros; kernel_rfl) <|
  And.intro (show ∀ (n1 : Int) (n2 : Int) (n3 : Int) (s4 : ByteArray) (b5 : Bool) (a6 : Option Addr) (k7 : Nat) (k8 : Nat) (n9 : Int) (n10 : Int) (n11 : Int) (n12 : Int) (n13 : Int), evBuild kon.P 110 [(0, (.agg #[.int .i64 n1, .int .i64 n2, .int .i64 n3, .string s4, .bool b5, .slice a6 k7 k8, .int .i64 n9, .int .i64 n10, .int .i64 n11, .int .i64 n12])), (1, (.int .i64 n13))] = some (.agg #[.int .i64 n1, .int .i64 n2, .int .i64 n3, .string s4, .bool b5, .slice a6 k7 k8, .int .i64 n9, .int .i64 n10, .int .i64 n11, .int .i64 n12, .int .i64 n13, .int .i64 0]) from by intros; kernel_rfl) <|
  And.intro (show ∀ (b o : Nat), evFieldAddr kon.P 92 (.pointer (some ⟨b, o, none⟩)) 2 = some (.pointer (some ⟨b, o + 2, none⟩)) from by intros; kernel_rfl) <|
  And.intro (L_loadC (C := kon) (t := 90) (by kernel_rfl)) <|
  And.intro (show ∀ (b o : Nat), evFieldAddr kon.P 40 (.pointer (some ⟨b, o, none⟩)) 1 = some (.pointer (some ⟨b, o + 1, none⟩)) from by intros; kernel_rfl) <|
  And.intro (show ∀ (b o : Nat), evFieldAddr kon.P 92 (.pointer (some ⟨b, o, none⟩)) 3 = some (.pointer (some ⟨b, o + 3, none⟩)) from by intros; kernel_rfl) <|
  And.intro (show ∀ (b o : Nat), evFieldAddr kon.P 92 (.pointer (some ⟨b, o, none⟩)) 1 = some (.pointer (some ⟨b, o + 1, none⟩)) from by intros; kernel_rfl) <|
  And.intro (L_loadC (C := kon) (t := 89) (by kernel_rfl)) <|
  And.intro (show ∀ (b o : Nat), evFieldAddr kon.P 40 (.pointer (some ⟨b, o, none⟩)) 2 = some (.pointer (some ⟨b, o + 2, none⟩)) from by intros; kernel_rfl) <|
  And.intro (show evBuild kon.P 40 [] = some (.agg #[.int .i64 0, .int .i64 0, .int .i64 0, .string ByteArray.empty, .bool false, .slice none 0 0, .int .i64 0, .int .i64 0, .int .i64 0, .int .i64 0]) from by intros; kernel_rfl) <|
  And.intro (show ∀ (b o : Nat), evFieldAddr kon.P 34 (.pointer (some ⟨b, o, none⟩)) 0 = some (.pointer (some ⟨b, o + 0, none⟩)) from by intros; kernel_rfl) <|
  And.intro (show ∀ (b o : Nat), evFieldAddr kon.P 34 (.pointer (some ⟨b, o, none⟩)) 1 = some (.pointer (some ⟨b, o + 1, none⟩)) from by intros; kernel_rfl) <|
  And.intro (show ∀ (b o : Nat), evFieldAddr kon.P 34 (.pointer (some ⟨b, o, none⟩)) 2 = some (.pointer (some ⟨b, o + 2, none⟩)) from by intros; kernel_rfl) <|
  And.intro (show ∀ (b o : Nat), evFieldAddr kon.P 34 (.pointer (some ⟨b, o, none⟩)) 4 = some (.pointer (some ⟨b, o + 4, none⟩)) from by intros; kernel_rfl) <|
  And.intro (L_loadC (C := kon) (t := 4) (by kernel_rfl)) <|
  And.intro (L_bin (C := kon) (t := 32) (by kernel_rfl)) <|
  And.intro (L_indexAddr (C := kon) (t := 30) (e := 65) (n := 4) (by kernel_rfl) (by kernel_rfl)) <|
  And.intro (L_loadA (C := kon) (t := 65) (n := 4) (by kernel_rfl) (by kernel_rfl)) <|
  And.intro (L_bin (C := kon) (t := 65) (by kernel_rfl)) <|
  (show ∀ (b o : Nat), evFieldAddr kon.P 40 (.pointer (some ⟨b, o, none⟩)) 3 = some (.pointer (some ⟨b, o + 3, none⟩)) from by intros; kernel_rfl)
theorem typ4 : type_of% (
  And.intro (show ∀ (b o : Nat), evFieldAddr kon.P 40 (.pointer (some ⟨b, o, none⟩)) 4 = some (.pointer (some ⟨b, o + 4, none⟩)) from by intros; kernel_rfl) <|
  And.intro (show ∀ (b o : Nat), evFieldAddr kon.P 40 (.pointer (some ⟨b, o, none⟩)) 5 = some (.pointer (some ⟨b, o + 5, none⟩)) from by intros; kernel_rfl) <|
  And.intro (show ∀ (b o : Nat), evFieldAddr kon.P 40 (.pointer (some ⟨b, o, none⟩)) 6 = some (.pointer (some ⟨b, o + 6, none⟩)) from by intros; kernel_rfl) <|
  And.intro (show ∀ (n1 : Int) (n2 : Int) (n3 : Int) (s4 : ByteArray) (b5 : Bool) (a6 : Option Addr) (k7 : Nat) (k8 : Nat) (n9 : Int) (n10 : Int) (n11 : Int) (n12 : Int), evBuild kon.P 34 [(0, (.int .i64 n1)), (1, (.int .i64 n2)), (2, (.int .i64 n3)), (3, (.string s4)), (4, (.bool b5)), (5, (.slice a6 k7 k8)), (6, (.agg #[.int .i64 n9, .int .i64 n10, .int .i64 n11, .int .i64 n12]))] = some (.agg #[.int .i64 n1, .int .i64 n2, .int .i64 n3, .string s4, .bool b5, .slice a6 k7 k8, .int .i64 n9, .int .i64 n10, .int .i64 n11, .int .i64 n12]) from by intros; kernel_rfl) <|
  And.intro (show ∀ (a1 : Option Addr), evBuild kon.P 118 [(0, (.pointer a1))] = some (.agg #[.pointer a1, .int .i64 0]) from by intros; kernel_rfl) <|
  And.intro (show ∀ (b o : Nat), evFieldAddr kon.P 120 (.pointer (some ⟨b, o, none⟩)) 2 = some (.pointer (some ⟨b, o + 2, none⟩)) from by intros; kernel_rfl) <|
  And.intro (L_loadC (C := kon) (t := 46) (by kernel_rfl)) <|
  And.intro (L_sliceSl (C := kon) (t := 46) (e := 9) (n := 1) (by kernel_rfl) (by kernel_rfl)) <|
  And.intro (L_store (C := kon) (t := 46) (n := 1) (by kernel_rfl)) <|
  And.intro (show ∀ (a1 : Option Addr) (n2 : Int) (a3 : Option Addr) (k4 : Nat) (k5 : Nat), evBuild kon.P 120 [(0, (.pointer a1)), (1, (.int .i64 n2)), (2, (.slice a3 k4 k5))] = some (.agg #[.pointer a1, .int .i64 n2, .slice a3 k4 k5, .int .i64 0]) from by intros; kernel_rfl) <|
  And.intro (show ∀ (b1 : Bool), evBuild kon.P 62 [(0, (.bool b1))] = some (.agg #[.bool b1, .bool false, .bool false]) from by intros; kernel_rfl) <|
  And.intro (show ∀ (n1 : Int) (n2 : Int) (n3 : Int) (n4 : Int) (n5 : Int), evBuild kon.P 60 [(1, (.int .i64 n1)), (2, (.int .i64 n2)), (4, (.int .i64 n3)), (5, (.int .i64 n4)), (6, (.int .i64 n5))] = some (.agg #[.int .i64 0, .int .i64 n1, .int .i64 n2, .int .i64 0, .int .i64 n3, .int .i64 n4, .int .i64 n5]) from by intros; kernel_rfl) <|
  And.intro (show ∀ (n1 : Int) (n2 : Int) (n3 : Int), evBuild kon.P 60 [(1, (.int .i64 n1)), (5, (.int .i64 n2)), (6, (.int .i64 n3))] = some (.agg #[.int .i64 0, .int .i64 n1, .int .i64 0, .int .i64 0, .int .i64 0, .int .i64 n2, .int .i64 n3]) from by intros; kernel_rfl) <|
  And.intro (show ∀ (b o : Nat), evFieldAddr kon.P 32 (.pointer (some ⟨b, o, none⟩)) 0 = some (.pointer (some ⟨b, o + 0, none⟩)) from by intros; kernel_rfl) <|
  And.intro (show ∀ (b o : Nat), evFieldAddr kon.P 32 (.pointer (some ⟨b, o, none⟩)) 1 = some (.pointer (some ⟨b, o + 1, none⟩)) from by intros; kernel_rfl) <|
  And.intro (show ∀ (b o : Nat), evFieldAddr kon.P 32 (.pointer (some ⟨b, o, none⟩)) 2 = some (.pointer (some ⟨b, o + 2, none⟩)) from by intros; kernel_rfl) <|
  And.intro (show ∀ (b o : Nat), evFieldAddr kon.P 32 (.pointer (some ⟨b, o, none⟩)) 3 = some (.pointer (some ⟨b, o + 3, none⟩)) from by intros; kernel_rfl) <|
  And.intro (L_loadC (C := kon) (t := 25) (by kernel_rfl)) <|
  And.intro (show ∀ (n1 : Int), evBuild kon.P 34 [(0, (.int .i64 n1))] = some (.agg #[.int .i64 n1, .int .i64 0, .int .i64 0, .string ByteArray.empty, .bool false, .slice none 0 0, .int .i64 0, .int .i64 0, .int .i64 0, .int .i64 0]) from by intros; kernel_rfl) <|
  And.intro (L_append (C := kon) (t := 30) (u := 30) (e := 65) (by kernel_rfl)) <|
  And.intro (show ∀ (n1 : Int) (n2 : Int) (b3 : Bool) (a4 : Option Addr) (k5 : Nat) (k6 : Nat) (n7 : Int) (n8 : Int) (n9 : Int) (n10 : Int), evBuild kon.P 34 [(0, (.int .i64 n1)), (1, (.int .i64 n2)), (4, (.bool b3)), (5, (.slice a4 k5 k6)), (6, (.agg #[.int .i64 n7, .int .i64 n8, .int .i64 n9, .int .i64 n10]))] = some (.agg #[.int .i64 n1, .int .i64 n2, .int .i64 0, .string ByteArray.empty, .bool b3, .slice a4 k5 k6, .int .i64 n7, .int .i64 n8, .int .i64 n9, .int .i64 n10]) from by intros; kernel_rfl) <|
  And.intro (show ∀ (b o : Nat), evFieldAddr kon.P 97 (.pointer (some ⟨b, o, none⟩)) 2 = some (.pointer (some ⟨b, o + 2, none⟩)) from by intros; kernel_rfl) <|
  And.intro (L_loadC (C := kon) (t := 93) (by kernel_rfl)) <|
  And.intro (L_append (C := kon) (t := 93) (u := 93) (e := 4) (by kernel_rfl)) <|
  And.intro (L_store (C := kon) (t := 93) (n := 1) (by kernel_rfl)) <|
  And.intro (L_len (C := kon) (t := 93) (by kernel_rfl)) <|
  And.intro (L_lenSl (C := kon) (t := 93) (e := 4) (by kernel_rfl)) <|
  And.intro (L_store (C := kon) (t := 9) (n := 1) (by kernel_rfl)) <|
  And.intro (show ∀ (b o : Nat), evFieldAddr kon.P 97 (.pointer (some ⟨b, o, none⟩)) 0 = some (.pointer (some ⟨b, o + 0, none⟩)) from by intros; kernel_rfl) <|
  And.intro (L_loadC (C := kon) (t := 94) (by kernel_rfl)) <|
  And.intro (L_buildSlice (C := kon) (t := 94) (e := 34) (n := 10) (z := (.agg #[.int .i64 0, .int .i64 0, .int .i64 0, .string ByteArray.empty, .bool false, .slice none 0 0, .int .i64 0, .int .i64 0, .int .i64 0, .int .i64 0])) (zs := [.int .i64 0, .int .i64 0, .int .i64 0, .string ByteArray.empty, .bool false, .slice none 0 0, .int .i64 0, .int .i64 0, .int .i64 0, .int .i64 0]) (len := 1) (by kernel_rfl) (by kernel_rfl) (by kernel_rfl) (by kernel_rfl) (by kernel_rfl) (by kernel_rfl)) <|
  And.intro (show ∀ (n1 : Int) (n2 : Int) (n3 : Int) (s4 : ByteArray) (b5 : Bool) (a6 : Option Addr) (k7 : Nat) (k8 : Nat) (n9 : Int) (n10 : Int) (n11 : Int) (n12 : Int), litRow 34 10 1 [.int .i64 0, .int .i64 0, .int .i64 0, .string ByteArray.empty, .bool false, .slice none 0 0, .int .i64 0, .int .i64 0, .int .i64 0, .int .i64 0] [(0, (.agg #[.int .i64 n1, .int .i64 n2, .int .i64 n3, .string s4, .bool b5, .slice a6 k7 k8, .int .i64 n9, .int .i64 n10, .int .i64 n11, .int .i64 n12]))] = some (mkRow 34 1 [.int .i64 n1, .int .i64 n2, .int .i64 n3, .string s4, .bool b5, .slice a6 k7 k8, .int .i64 n9, .int .i64 n10, .int .i64 n11, .int .i64 n12]) from by intros; kernel_rfl) <|
  And.intro (L_append (C := kon) (t := 94) (u := 94) (e := 34) (by kernel_rfl)) <|
  And.intro (L_store (C := kon) (t := 94) (n := 1) (by kernel_rfl)) <|
  And.intro (show ∀ (b o : Nat), evFieldAddr kon.P 97 (.pointer (some ⟨b, o, none⟩)) 1 = some (.pointer (some ⟨b, o + 1, none⟩)) from by intros; kernel_rfl) <|
  And.intro (L_loadC (C := kon) (t := 95) (by kernel_rfl)) <|
  And.intro (L_len (C := kon) (t := 94) (by kernel_rfl)) <|
  And.intro (L_lenSl (C := kon) (t := 94) (e := 34) (by kernel_rfl)) <|
  And.intro (show ∀ (n1 : Int) (n2 : Int) (s3 : ByteArray), evBuild kon.P 126 [(0, (.int .i64 n1)), (1, (.int .i64 n2)), (2, (.string s3))] = some (.agg #[.int .i64 n1, .int .i64 n2, .string s3]) from by intros; kernel_rfl) <|
  (L_buildSlice (C := kon) (t := 95) (e := 126) (n := 3) (z := (.agg #[.int .i64 0, .int .i64 0, .string ByteArray.empty])) (zs := [.int .i64 0, .int .i64 0, .string ByteArray.empty]) (len := 1) (by kernel_rfl) (by kernel_rfl) (by kernel_rfl) (by kernel_rfl) (by kernel_rfl) (by kernel_rfl))) :=
  And.intro (show ∀ (b o : Nat), evFieldAddr kon.P 40 (.pointer (some ⟨b, o, none⟩)) 4 = some (.pointer (some ⟨b, o + 4, none⟩)) from by intros; kernel_rfl) <|
  And.intro (show ∀ (b o : Nat), evFieldAddr kon.P 40 (.pointer (some ⟨b, o, none⟩)) 5 = some (.pointer (some ⟨b, o + 5, none⟩)) from by intros; kernel_rfl) <|
  And.intro (show ∀ (b o : Nat), evFieldAddr kon.P 40 (.pointer (some ⟨b, o, none⟩)) 6 = some (.pointer (some ⟨b, o + 6, none⟩)) from by intros; kernel_rfl) <|
  And.intro (show ∀ (n1 : Int) (n2 : Int) (n3 : Int) (s4 : ByteArray) (b5 : Bool) (a6 : Option Addr) (k7 : Nat) (k8 : Nat) (n9 : Int) (n10 : Int) (n11 : Int) (n12 : Int), evBuild kon.P 34 [(0, (.int .i64 n1)), (1, (.int .i64 n2)), (2, (.int .i64 n3)), (3, (.string s4)), (4, (.bool b5)), (5, (.slice a6 k7 k8)), (6, (.agg #[.int .i64 n9, .int .i64 n10, .int .i64 n11, .int .i64 n12]))] = some (.agg #[.int .i64 n1, .int .i64 n2, .int .i64 n3, .string s4, .bool b5, .slice a6 k7 k8, .int .i64 n9, .int .i64 n10, .int .i64 n11, .int .i64 n12]) from by intros; kernel_rfl) <|
  And.intro (show ∀ (a1 : Option Addr), evBuild kon.P 118 [(0, (.pointer a1))] = some (.agg #[.pointer a1, .int .i64 0]) from by intros; kernel_rfl) <|
  And.intro (show ∀ (b o : Nat), evFieldAddr kon.P 120 (.pointer (some ⟨b, o, none⟩)) 2 = some (.pointer (some ⟨b, o + 2, none⟩)) from by intros; kernel_rfl) <|
  And.intro (L_loadC (C := kon) (t := 46) (by kernel_rfl)) <|
  And.intro (L_sliceSl (C := kon) (t := 46) (e := 9) (n := 1) (by kernel_rfl) (by kernel_rfl)) <|
  And.intro (L_store (C := kon) (t := 46) (n := 1) (by kernel_rfl)) <|
  And.intro (show ∀ (a1 : Option Addr) (n2 : Int) (a3 : Option Addr) (k4 : Nat) (k5 : Nat), evBuild kon.P 120 [(0, (.pointer a1)), (1, (.int .i64 n2)), (2, (.slice a3 k4 k5))] = some (.agg #[.pointer a1, .int .i64 n2, .slice a3 k4 k5, .int .i64 0]) from by intros; kernel_rfl) <|
  And.intro (show ∀ (b1 : Bool), evBuild kon.P 62 [(0, (.bool b1))] = some (.agg #[.bool b1, .bool false, .bool false]) from by intros; kernel_rfl) <|
  And.intro (show ∀ (n1 : Int) (n2 : Int) (n3 : Int) (n4 : Int) (n5 : Int), evBuild kon.P 60 [(1, (.int .i64 n1)), (2, (.int .i64 n2)), (4, (.int .i64 n3)), (5, (.int .i64 n4)), (6, (.int .i64 n5))] = some (.agg #[.int .i64 0, .int .i64 n1, .int .i64 n2, .int .i64 0, .int .i64 n3, .int .i64 n4, .int .i64 n5]) from by intros; kernel_rfl) <|
  And.intro (show ∀ (n1 : Int) (n2 : Int) (n3 : Int), evBuild kon.P 60 [(1, (.int .i64 n1)), (5, (.int .i64 n2)), (6, (.int .i64 n3))] = some (.agg #[.int .i64 0, .int .i64 n1, .int .i64 0, .int .i64 0, .int .i64 0, .int .i64 n2, .int .i64 n3]) from by intros; kernel_rfl) <|
  And.intro (show ∀ (b o : Nat), evFieldAddr kon.P 32 (.pointer (some ⟨b, o, none⟩)) 0 = some (.pointer (some ⟨b, o + 0, none⟩)) from by intros; kernel_rfl) <|
  And.intro (show ∀ (b o : Nat), evFieldAddr kon.P 32 (.pointer (some ⟨b, o, none⟩)) 1 = some (.pointer (some ⟨b, o + 1, none⟩)) from by intros; kernel_rfl) <|
  And.intro (show ∀ (b o : Nat), evFieldAddr kon.P 32 (.pointer (some ⟨b, o, none⟩)) 2 = some (.pointer (some ⟨b, o + 2, none⟩)) from by intros; kernel_rfl) <|
  And.intro (show ∀ (b o : Nat), evFieldAddr kon.P 32 (.pointer (some ⟨b, o, none⟩)) 3 = some (.pointer (some ⟨b, o + 3, none⟩)) from by intros; kernel_rfl) <|
  And.intro (L_loadC (C := kon) (t := 25) (by kernel_rfl)) <|
  And.intro (show ∀ (n1 : Int), evBuild kon.P 34 [(0, (.int .i64 n1))] = some (.agg #[.int .i64 n1, .int .i64 0, .int .i64 0, .string ByteArray.empty, .bool false, .slice none 0 0, .int .i64 0, .int .i64 0, .int .i64 0, .int .i64 0]) from by intros; kernel_rfl) <|
  And.intro (L_append (C := kon) (t := 30) (u := 30) (e := 65) (by kernel_rfl)) <|
  And.intro (show ∀ (n1 : Int) (n2 : Int) (b3 : Bool) (a4 : Option Addr) (k5 : Nat) (k6 : Nat) (n7 : Int) (n8 : Int) (n9 : Int) (n10 : Int), evBuild kon.P 34 [(0, (.int .i64 n1)), (1, (.int .i64 n2)), (4, (.bool b3)), (5, (.slice a4 k5 k6)), (6, (.agg #[.int .i64 n7, .int .i64 n8, .int .i64 n9, .int .i64 n10]))] = some (.agg #[.int .i64 n1, .int .i64 n2, .int .i64 0, .string ByteArray.empty, .bool b3, .slice a4 k5 k6, .int .i64 n7, .int .i64 n8, .int .i64 n9, .int .i64 n10]) from by intros; kernel_rfl) <|
  And.intro (show ∀ (b o : Nat), evFieldAddr kon.P 97 (.pointer (some ⟨b, o, none⟩)) 2 = some (.pointer (some ⟨b, o + 2, none⟩)) from by intros; kernel_rfl) <|
  And.intro (L_loadC (C := kon) (t := 93) (by kernel_rfl)) <|
  And.intro (L_append (C := kon) (t := 93) (u := 93) (e := 4) (by kernel_rfl)) <|
  And.intro (L_store (C := kon) (t := 93) (n := 1) (by kernel_rfl)) <|
  And.intro (L_len (C := kon) (t := 93) (by kernel_rfl)) <|
  And.intro (L_lenSl (C := kon) (t := 93) (e := 4) (by kernel_rfl)) <|
  And.intro (L_store (C := kon) (t := 9) (n := 1) (by kernel_rfl)) <|
  And.intro (show ∀ (b o : Nat), evFieldAddr kon.P 97 (.pointer (some ⟨b, o, none⟩)) 0 = some (.pointer (some ⟨b, o + 0, none⟩)) from by intros; kernel_rfl) <|
  And.intro (L_loadC (C := kon) (t := 94) (by kernel_rfl)) <|
  And.intro (L_buildSlice (C := kon) (t := 94) (e := 34) (n := 10) (z := (.agg #[.int .i64 0, .int .i64 0, .int .i64 0, .string ByteArray.empty, .bool false, .slice none 0 0, .int .i64 0, .int .i64 0, .int .i64 0, .int .i64 0])) (zs := [.int .i64 0, .int .i64 0, .int .i64 0, .string ByteArray.empty, .bool false, .slice none 0 0, .int .i64 0, .int .i64 0, .int .i64 0, .int .i64 0]) (len := 1) (by kernel_rfl) (by kernel_rfl) (by kernel_rfl) (by kernel_rfl) (by kernel_rfl) (by kernel_rfl)) <|
  And.intro (show ∀ (n1 : Int) (n2 : Int) (n3 : Int) (s4 : ByteArray) (b5 : Bool) (a6 : Option Addr) (k7 : Nat) (k8 : Nat) (n9 : Int) (n10 : Int) (n11 : Int) (n12 : Int), litRow 34 10 1 [.int .i64 0, .int .i64 0, .int .i64 0, .string ByteArray.empty, .bool false, .slice none 0 0, .int .i64 0, .int .i64 0, .int .i64 0, .int .i64 0] [(0, (.agg #[.int .i64 n1, .int .i64 n2, .int .i64 n3, .string s4, .bool b5, .slice a6 k7 k8, .int .i64 n9, .int .i64 n10, .int .i64 n11, .int .i64 n12]))] = some (mkRow 34 1 [.int .i64 n1, .int .i64 n2, .int .i64 n3, .string s4, .bool b5, .slice a6 k7 k8, .int .i64 n9, .int .i64 n10, .int .i64 n11, .int .i64 n12]) from by intros; kernel_rfl) <|
  And.intro (L_append (C := kon) (t := 94) (u := 94) (e := 34) (by kernel_rfl)) <|
  And.intro (L_store (C := kon) (t := 94) (n := 1) (by kernel_rfl)) <|
  And.intro (show ∀ (b o : Nat), evFieldAddr kon.P 97 (.pointer (some ⟨b, o, none⟩)) 1 = some (.pointer (some ⟨b, o + 1, none⟩)) from by intros; kernel_rfl) <|
  And.intro (L_loadC (C := kon) (t := 95) (by kernel_rfl)) <|
  And.intro (L_len (C := kon) (t := 94) (by kernel_rfl)) <|
  And.intro (L_lenSl (C := kon) (t := 94) (e := 34) (by kernel_rfl)) <|
  And.intro (show ∀ (n1 : Int) (n2 : Int) (s3 : ByteArray), evBuild kon.P 126 [(0, (.int .i64 n1)), (1, (.int .i64 n2)), (2, (.string s3))] = some (.agg #[.int .i64 n1, .int .i64 n2, .string s3]) from by intros; kernel_rfl) <|
  (L_buildSlice (C := kon) (t := 95) (e := 126) (n := 3) (z := (.agg #[.int .i64 0, .int .i64 0, .string ByteArray.empty])) (zs := [.int .i64 0, .int .i64 0, .string ByteArray.empty]) (len := 1) (by kernel_rfl) (by kernel_rfl) (by kernel_rfl) (by kernel_rfl) (by kernel_rfl) (by kernel_rfl))
theorem typ5 : type_of% (
  And.intro (show ∀ (n1 : Int) (n2 : Int) (s3 : ByteArray), litRow 126 3 1 [.int .i64 0, .int .i64 0, .string ByteArray.empty] [(0, (.agg #[.int .i64 n1, .int .i64 n2, .string s3]))] = some (mkRow 126 1 [.int .i64 n1, .int .i64 n2, .string s3]) from by intros; kernel_rfl) <|
  And.intro (L_append (C := kon) (t := 95) (u := 95) (e := 126) (by kernel_rfl)) <|
  And.intro (L_store (C := kon) (t := 95) (n := 1) (by kernel_rfl)) <|
  And.intro (show ∀ (b o : Nat), evFieldAddr kon.P 60 (.pointer (some ⟨b, o, none⟩)) 4 = some (.pointer (some ⟨b, o + 4, none⟩)) from by intros; kernel_rfl) <|
  And.intro (show ∀ (b o : Nat), evFieldAddr kon.P 60 (.pointer (some ⟨b, o, none⟩)) 3 = some (.pointer (some ⟨b, o + 3, none⟩)) from by intros; kernel_rfl) <|
  And.intro (show ∀ (b o : Nat), evFieldAddr kon.P 110 (.pointer (some ⟨b, o, none⟩)) 0 = some (.pointer (some ⟨b, o + 0, none⟩)) from by intros; kernel_rfl) <|
  And.intro (L_store (C := kon) (t := 30) (n := 1) (by kernel_rfl)) <|
  And.intro (L_store (C := kon) (t := 32) (n := 4) (by kernel_rfl)) <|
  And.intro (L_cmp (C := kon) (t := 106) (by kernel_rfl) (op := .eql) rfl) <|
  And.intro (L_cmpE (C := kon) (t := 106) (by kernel_rfl)) <|
  And.intro (show ∀ (x y : Operand) (h : Hp) (p i : Nat), cmpV kon.P .eql 106 x y h (.pointer (some ⟨p, i, none⟩)) (.pointer (none)) = some (.bool false) from by intros; kernel_rfl) <|
  And.intro (show ∀ (x y : Operand) (h : Hp) (p i : Nat), cmpV kon.P .eql 106 x y h (.pointer (none)) (.pointer (some ⟨p, i, none⟩)) = some (.bool false) from by intros; kernel_rfl) <|
  And.intro (show ∀ (x y : Operand) (h : Hp), cmpV kon.P .eql 106 x y h (.pointer (none)) (.pointer (none)) = some (.bool true) from by intros; kernel_rfl) <|
  And.intro (L_alloc (C := kon) (t := 60) (z := (.agg #[.int .i64 0, .int .i64 0, .int .i64 0, .int .i64 0, .int .i64 0, .int .i64 0, .int .i64 0])) (cs := [.int .i64 0, .int .i64 0, .int .i64 0, .int .i64 0, .int .i64 0, .int .i64 0, .int .i64 0]) (by kernel_rfl) (by kernel_rfl) (by kernel_rfl)) <|
  And.intro (L_store (C := kon) (t := 60) (n := 7) (by kernel_rfl)) <|
  And.intro (show ∀ (n1 : Int) (n2 : Int), evBuild kon.P 40 [(0, (.int .i64 n1)), (1, (.int .i64 n2))] = some (.agg #[.int .i64 n1, .int .i64 n2, .int .i64 0, .string ByteArray.empty, .bool false, .slice none 0 0, .int .i64 0, .int .i64 0, .int .i64 0, .int .i64 0]) from by intros; kernel_rfl) <|
  And.intro (show ∀ (n1 : Int) (s2 : ByteArray), evBuild kon.P 83 [(0, (.int .i64 n1)), (1, (.string s2))] = some (.agg #[.int .i64 n1, .string s2]) from by intros; kernel_rfl) <|
  And.intro (show ∀ (n1 : Int), evBuild kon.P 83 [(0, (.int .i64 n1))] = some (.agg #[.int .i64 n1, .string ByteArray.empty]) from by intros; kernel_rfl) <|
  And.intro (L_buildSlice (C := kon) (t := 81) (e := 83) (n := 2) (z := (.agg #[.int .i64 0, .string ByteArray.empty])) (zs := [.int .i64 0, .string ByteArray.empty]) (len := 2) (by kernel_rfl) (by kernel_rfl) (by kernel_rfl) (by kernel_rfl) (by kernel_rfl) (by kernel_rfl)) <|
  And.intro (show ∀ (n1 : Int) (s2 : ByteArray) (n3 : Int) (s4 : ByteArray), litRow 83 2 2 [.int .i64 0, .string ByteArray.empty] [(0, (.agg #[.int .i64 n1, .string s2])), (1, (.agg #[.int .i64 n3, .string s4]))] = some (mkRow 83 2 [.int .i64 n1, .string s2, .int .i64 n3, .string s4]) from by intros; kernel_rfl) <|
  And.intro (L_loadA (C := kon) (t := 83) (n := 2) (by kernel_rfl) (by kernel_rfl)) <|
  And.intro (L_alloc (C := kon) (t := 83) (z := (.agg #[.int .i64 0, .string ByteArray.empty])) (cs := [.int .i64 0, .string ByteArray.empty]) (by kernel_rfl) (by kernel_rfl) (by kernel_rfl)) <|
  And.intro (L_store (C := kon) (t := 83) (n := 2) (by kernel_rfl)) <|
  And.intro (show ∀ (b o : Nat), evFieldAddr kon.P 83 (.pointer (some ⟨b, o, none⟩)) 0 = some (.pointer (some ⟨b, o + 0, none⟩)) from by intros; kernel_rfl) <|
  And.intro (show evBuild kon.P 34 [] = some (.agg #[.int .i64 0, .int .i64 0, .int .i64 0, .string ByteArray.empty, .bool false, .slice none 0 0, .int .i64 0, .int .i64 0, .int .i64 0, .int .i64 0]) from by intros; kernel_rfl) <|
  And.intro (show ∀ (n1 : Int) (n2 : Int) (n3 : Int) (s4 : ByteArray) (b5 : Bool) (a6 : Option Addr) (k7 : Nat) (k8 : Nat) (n9 : Int) (n10 : Int) (n11 : Int) (n12 : Int), evBuild kon.P 40 [(0, (.int .i64 n1)), (1, (.int .i64 n2)), (2, (.int .i64 n3)), (3, (.string s4)), (4, (.bool b5)), (5, (.slice a6 k7 k8)), (6, (.agg #[.int .i64 n9, .int .i64 n10, .int .i64 n11, .int .i64 n12]))] = some (.agg #[.int .i64 n1, .int .i64 n2, .int .i64 n3, .string s4, .bool b5, .slice a6 k7 k8, .int .i64 n9, .int .i64 n10, .int .i64 n11, .int .i64 n12]) from by intros; kernel_rfl) <|
  And.intro (L_indexAddr (C := kon) (t := 95) (e := 126) (n := 3) (by kernel_rfl) (by kernel_rfl)) <|
  And.intro (show ∀ (b o : Nat), evFieldAddr kon.P 126 (.pointer (some ⟨b, o, none⟩)) 1 = some (.pointer (some ⟨b, o + 1, none⟩)) from by intros; kernel_rfl) <|
  And.intro (show ∀ (b o : Nat), evFieldAddr kon.P 110 (.pointer (some ⟨b, o, none⟩)) 2 = some (.pointer (some ⟨b, o + 11, none⟩)) from by intros; kernel_rfl) <|
  And.intro (L_sliceSl (C := kon) (t := 95) (e := 126) (n := 3) (by kernel_rfl) (by kernel_rfl)) <|
  And.intro (L_indexAddr (C := kon) (t := 94) (e := 34) (n := 10) (by kernel_rfl) (by kernel_rfl)) <|
  And.intro (L_indexAddr (C := kon) (t := 93) (e := 4) (n := 1) (by kernel_rfl) (by kernel_rfl)) <|
  And.intro (L_store (C := kon) (t := 4) (n := 1) (by kernel_rfl)) <|
  And.intro (L_len (C := kon) (t := 95) (by kernel_rfl)) <|
  And.intro (L_lenSl (C := kon) (t := 95) (e := 126) (by kernel_rfl)) <|
  And.intro (L_loadA (C := kon) (t := 126) (n := 3) (by kernel_rfl) (by kernel_rfl)) <|
  And.intro (show ∀ (b o : Nat), evFieldAddr kon.P 92 (.pointer (some ⟨b, o, none⟩)) 0 = some (.pointer (some ⟨b, o + 0, none⟩)) from by intros; kernel_rfl) <|
  And.intro (L_loadC (C := kon) (t := 88) (by kernel_rfl)) <|
  And.intro (show ∀ (n1 : Int) (s2 : ByteArray), evBuild kon.P 149 [(0, (.int .i64 n1)), (1, (.string s2))] = some (.agg #[.int .i64 n1, .string s2]) from by intros; kernel_rfl) <|
  (show ∀ (n1 : Int) (n2 : Int) (b3 : Bool) (a4 : Option Addr) (k5 : Nat) (k6 : Nat) (n7 : Int) (n8 : Int) (n9 : Int) (n10 : Int), evBuild kon.P 40 [(0, (.int .i64 n1)), (1, (.int .i64 n2)), (4, (.bool b3)), (5, (.slice a4 k5 k6)), (6, (.agg #[.int .i64 n7, .int .i64 n8, .int .i64 n9, .int .i64 n10]))] = some (.agg #[.int .i64 n1, .int .i64 n2, .int .i64 0, .string ByteArray.empty, .bool b3, .slice a4 k5 k6, .int .i64 n7, .int .i64 n8, .int .i64 n9, .int .i64 n10]) from by intros; kernel_rfl)) :=
  And.intro (show ∀ (n1 : Int) (n2 : Int) (s3 : ByteArray), litRow 126 3 1 [.int .i64 0, .int .i64 0, .string ByteArray.empty] [(0, (.agg #[.int .i64 n1, .int .i64 n2, .string s3]))] = some (mkRow 126 1 [.int .i64 n1, .int .i64 n2, .string s3]) from by intros; kernel_rfl) <|
  And.intro (L_append (C := kon) (t := 95) (u := 95) (e := 126) (by kernel_rfl)) <|
  And.intro (L_store (C := kon) (t := 95) (n := 1) (by kernel_rfl)) <|
  And.intro (show ∀ (b o : Nat), evFieldAddr kon.P 60 (.pointer (some ⟨b, o, none⟩)) 4 = some (.pointer (some ⟨b, o + 4, none⟩)) from by intros; kernel_rfl) <|
  And.intro (show ∀ (b o : Nat), evFieldAddr kon.P 60 (.pointer (some ⟨b, o, none⟩)) 3 = some (.pointer (some ⟨b, o + 3, none⟩)) from by intros; kernel_rfl) <|
  And.intro (show ∀ (b o : Nat), evFieldAddr kon.P 110 (.pointer (some ⟨b, o, none⟩)) 0 = some (.pointer (some ⟨b, o + 0, none⟩)) from by intros; kernel_rfl) <|
  And.intro (L_store (C := kon) (t := 30) (n := 1) (by kernel_rfl)) <|
  And.intro (L_store (C := kon) (t := 32) (n := 4) (by kernel_rfl)) <|
  And.intro (L_cmp (C := kon) (t := 106) (by kernel_rfl) (op := .eql) rfl) <|
  And.intro (L_cmpE (C := kon) (t := 106) (by kernel_rfl)) <|
  And.intro (show ∀ (x y : Operand) (h : Hp) (p i : Nat), cmpV kon.P .eql 106 x y h (.pointer (some ⟨p, i, none⟩)) (.pointer (none)) = some (.bool false) from by intros; kernel_rfl) <|
  And.intro (show ∀ (x y : Operand) (h : Hp) (p i : Nat), cmpV kon.P .eql 106 x y h (.pointer (none)) (.pointer (some ⟨p, i, none⟩)) = some (.bool false) from by intros; kernel_rfl) <|
  And.intro (show ∀ (x y : Operand) (h : Hp), cmpV kon.P .eql 106 x y h (.pointer (none)) (.pointer (none)) = some (.bool true) from by intros; kernel_rfl) <|
  And.intro (L_alloc (C := kon) (t := 60) (z := (.agg #[.int .i64 0, .int .i64 0, .int .i64 0, .int .i64 0, .int .i64 0, .int .i64 0, .int .i64 0])) (cs := [.int .i64 0, .int .i64 0, .int .i64 0, .int .i64 0, .int .i64 0, .int .i64 0, .int .i64 0]) (by kernel_rfl) (by kernel_rfl) (by kernel_rfl)) <|
  And.intro (L_store (C := kon) (t := 60) (n := 7) (by kernel_rfl)) <|
  And.intro (show ∀ (n1 : Int) (n2 : Int), evBuild kon.P 40 [(0, (.int .i64 n1)), (1, (.int .i64 n2))] = some (.agg #[.int .i64 n1, .int .i64 n2, .int .i64 0, .string ByteArray.empty, .bool false, .slice none 0 0, .int .i64 0, .int .i64 0, .int .i64 0, .int .i64 0]) from by intros; kernel_rfl) <|
  And.intro (show ∀ (n1 : Int) (s2 : ByteArray), evBuild kon.P 83 [(0, (.int .i64 n1)), (1, (.string s2))] = some (.agg #[.int .i64 n1, .string s2]) from by intros; kernel_rfl) <|
  And.intro (show ∀ (n1 : Int), evBuild kon.P 83 [(0, (.int .i64 n1))] = some (.agg #[.int .i64 n1, .string ByteArray.empty]) from by intros; kernel_rfl) <|
  And.intro (L_buildSlice (C := kon) (t := 81) (e := 83) (n := 2) (z := (.agg #[.int .i64 0, .string ByteArray.empty])) (zs := [.int .i64 0, .string ByteArray.empty]) (len := 2) (by kernel_rfl) (by kernel_rfl) (by kernel_rfl) (by kernel_rfl) (by kernel_rfl) (by kernel_rfl)) <|
  And.intro (show ∀ (n1 : Int) (s2 : ByteArray) (n3 : Int) (s4 : ByteArray), litRow 83 2 2 [.int .i64 0, .string ByteArray.empty] [(0, (.agg #[.int .i64 n1, .string s2])), (1, (.agg #[.int .i64 n3, .string s4]))] = some (mkRow 83 2 [.int .i64 n1, .string s2, .int .i64 n3, .string s4]) from by intros; kernel_rfl) <|
  And.intro (L_loadA (C := kon) (t := 83) (n := 2) (by kernel_rfl) (by kernel_rfl)) <|
  And.intro (L_alloc (C := kon) (t := 83) (z := (.agg #[.int .i64 0, .string ByteArray.empty])) (cs := [.int .i64 0, .string ByteArray.empty]) (by kernel_rfl) (by kernel_rfl) (by kernel_rfl)) <|
  And.intro (L_store (C := kon) (t := 83) (n := 2) (by kernel_rfl)) <|
  And.intro (show ∀ (b o : Nat), evFieldAddr kon.P 83 (.pointer (some ⟨b, o, none⟩)) 0 = some (.pointer (some ⟨b, o + 0, none⟩)) from by intros; kernel_rfl) <|
  And.intro (show evBuild kon.P 34 [] = some (.agg #[.int .i64 0, .int .i64 0, .int .i64 0, .string ByteArray.empty, .bool false, .slice none 0 0, .int .i64 0, .int .i64 0, .int .i64 0, .int .i64 0]) from by intros; kernel_rfl) <|
  And.intro (show ∀ (n1 : Int) (n2 : Int) (n3 : Int) (s4 : ByteArray) (b5 : Bool) (a6 : Option Addr) (k7 : Nat) (k8 : Nat) (n9 : Int) (n10 : Int) (n11 : Int) (n12 : Int), evBuild kon.P 40 [(0, (.int .i64 n1)), (1, (.int .i64 n2)), (2, (.int .i64 n3)), (3, (.string s4)), (4, (.bool b5)), (5, (.slice a6 k7 k8)), (6, (.agg #[.int .i64 n9, .int .i64 n10, .int .i64 n11, .int .i64 n12]))] = some (.agg #[.int .i64 n1, .int .i64 n2, .int .i64 n3, .string s4, .bool b5, .slice a6 k7 k8, .int .i64 n9, .int .i64 n10, .int .i64 n11, .int .i64 n12]) from by intros; kernel_rfl) <|
  And.intro (L_indexAddr (C := kon) (t := 95) (e := 126) (n := 3) (by kernel_rfl) (by kernel_rfl)) <|
  And.intro (show ∀ (b o : Nat), evFieldAddr kon.P 126 (.pointer (some ⟨b, o, none⟩)) 1 = some (.pointer (some ⟨b, o + 1, none⟩)) from by intros; kernel_rfl) <|
  And.intro (show ∀ (b o : Nat), evFieldAddr kon.P 110 (.pointer (some ⟨b, o, none⟩)) 2 = some (.pointer (some ⟨b, o + 11, none⟩)) from by intros; kernel_rfl) <|
  And.intro (L_sliceSl (C := kon) (t := 95) (e := 126) (n := 3) (by kernel_rfl) (by kernel_rfl)) <|
  And.intro (L_indexAddr (C := kon) (t := 94) (e := 34) (n := 10) (by kernel_rfl) (by kernel_rfl)) <|
  And.intro (L_indexAddr (C := kon) (t := 93) (e := 4) (n := 1) (by kernel_rfl) (by kernel_rfl)) <|
  And.intro (L_store (C := kon) (t := 4) (n := 1) (by kernel_rfl)) <|
  And.intro (L_len (C := kon) (t := 95) (by kernel_rfl)) <|
  And.intro (L_lenSl (C := kon) (t := 95) (e := 126) (by kernel_rfl)) <|
  And.intro (L_loadA (C := kon) (t := 126) (n := 3) (by kernel_rfl) (by kernel_rfl)) <|
  And.intro (show ∀ (b o : Nat), evFieldAddr kon.P 92 (.pointer (some ⟨b, o, none⟩)) 0 = some (.pointer (some ⟨b, o + 0, none⟩)) from by intros; kernel_rfl) <|
  And.intro (L_loadC (C := kon) (t := 88) (by kernel_rfl)) <|
  And.intro (show ∀ (n1 : Int) (s2 : ByteArray), evBuild kon.P 149 [(0, (.int .i64 n1)), (1, (.string s2))] = some (.agg #[.int .i64 n1, .string s2]) from by intros; kernel_rfl) <|
  (show ∀ (n1 : Int) (n2 : Int) (b3 : Bool) (a4 : Option Addr) (k5 : Nat) (k6 : Nat) (n7 : Int) (n8 : Int) (n9 : Int) (n10 : Int), evBuild kon.P 40 [(0, (.int .i64 n1)), (1, (.int .i64 n2)), (4, (.bool b3)), (5, (.slice a4 k5 k6)), (6, (.agg #[.int .i64 n7, .int .i64 n8, .int .i64 n9, .int .i64 n10]))] = some (.agg #[.int .i64 n1, .int .i64 n2, .int .i64 0, .string ByteArray.empty, .bool b3, .slice a4 k5 k6, .int .i64 n7, .int .i64 n8, .int .i64 n9, .int .i64 n10]) from by intros; kernel_rfl)
theorem typ6 : type_of% (
  And.intro (show ∀ (n1 : Int) (n2 : Int), evBuild kon.P 40 [(0, (.int .i64 n1)), (2, (.int .i64 n2))] = some (.agg #[.int .i64 n1, .int .i64 0, .int .i64 n2, .string ByteArray.empty, .bool false, .slice none 0 0, .int .i64 0, .int .i64 0, .int .i64 0, .int .i64 0]) from by intros; kernel_rfl) <|
  And.intro (show ∀ (a1 : Option Addr) (a2 : Option Addr) (k3 : Nat) (k4 : Nat), evBuild kon.P 120 [(0, (.pointer a1)), (2, (.slice a2 k3 k4))] = some (.agg #[.pointer a1, .int .i64 0, .slice a2 k3 k4, .int .i64 0]) from by intros; kernel_rfl) <|
  And.intro (show ∀ (b o : Nat), evFieldAddr kon.P 120 (.pointer (some ⟨b, o, none⟩)) 0 = some (.pointer (some ⟨b, o + 0, none⟩)) from by intros; kernel_rfl) <|
  And.intro (show ∀ (b o : Nat), evFieldAddr kon.P 120 (.pointer (some ⟨b, o, none⟩)) 1 = some (.pointer (some ⟨b, o + 1, none⟩)) from by intros; kernel_rfl) <|
  And.intro (show ∀ (b o : Nat), evFieldAddr kon.P 118 (.pointer (some ⟨b, o, none⟩)) 0 = some (.pointer (some ⟨b, o + 0, none⟩)) from by intros; kernel_rfl) <|
  And.intro (L_loadC (C := kon) (t := 27) (by kernel_rfl)) <|
  And.intro (show ∀ (b o : Nat), evFieldAddr kon.P 118 (.pointer (some ⟨b, o, none⟩)) 1 = some (.pointer (some ⟨b, o + 1, none⟩)) from by intros; kernel_rfl) <|
  And.intro (show evBuild kon.P 62 [] = some (.agg #[.bool false, .bool false, .bool false]) from by intros; kernel_rfl) <|
  And.intro (show ∀ (b o : Nat), evFieldAddr kon.P 65 (.pointer (some ⟨b, o, none⟩)) 0 = some (.pointer (some ⟨b, o + 0, none⟩)) from by intros; kernel_rfl) <|
  And.intro (show ∀ (b o : Nat), evFieldAddr kon.P 65 (.pointer (some ⟨b, o, none⟩)) 1 = some (.pointer (some ⟨b, o + 1, none⟩)) from by intros; kernel_rfl) <|
  And.intro (show ∀ (b o : Nat), evFieldAddr kon.P 62 (.pointer (some ⟨b, o, none⟩)) 0 = some (.pointer (some ⟨b, o + 0, none⟩)) from by intros; kernel_rfl) <|
  And.intro (show ∀ (b o : Nat), evFieldAddr kon.P 62 (.pointer (some ⟨b, o, none⟩)) 1 = some (.pointer (some ⟨b, o + 1, none⟩)) from by intros; kernel_rfl) <|
  And.intro (show ∀ (b o : Nat), evFieldAddr kon.P 62 (.pointer (some ⟨b, o, none⟩)) 2 = some (.pointer (some ⟨b, o + 2, none⟩)) from by intros; kernel_rfl) <|
  And.intro (L_alloc (C := kon) (t := 65) (z := (.agg #[.string ByteArray.empty, .bool false, .bool false, .bool false])) (cs := [.string ByteArray.empty, .bool false, .bool false, .bool false]) (by kernel_rfl) (by kernel_rfl) (by kernel_rfl)) <|
  And.intro (L_store (C := kon) (t := 65) (n := 4) (by kernel_rfl)) <|
  And.intro (L_bin (C := kon) (t := 30) (by kernel_rfl)) <|
  And.intro (show ∀ (x y : Operand) (p i l q : Nat), evBin kon.P .eql 30 x y (.slice (some ⟨p, i, none⟩) l q) (.slice none 0 0) = some (.bool false) from by intros; kernel_rfl) <|
  And.intro (show ∀ (x y : Operand), evBin kon.P .eql 30 x y (.slice none 0 0) (.slice none 0 0) = some (.bool true) from by intros; kernel_rfl) <|
  And.intro (L_buildSlice (C := kon) (t := 30) (e := 65) (n := 4) (z := (.agg #[.string ByteArray.empty, .bool false, .bool false, .bool false])) (zs := [.string ByteArray.empty, .bool false, .bool false, .bool false]) (len := 0) (by kernel_rfl) (by kernel_rfl) (by kernel_rfl) (by kernel_rfl) (by kernel_rfl) (by kernel_rfl)) <|
  And.intro (show litRow 65 4 0 [.string ByteArray.empty, .bool false, .bool false, .bool false] [] = some (mkRow 65 0 []) from by intros; kernel_rfl) <|
  And.intro (L_cmp (C := kon) (t := 137) (by kernel_rfl) (op := .eql) rfl) <|
  And.intro (L_cmpE (C := kon) (t := 137) (by kernel_rfl)) <|
  And.intro (show ∀ (x y : Operand) (h : Hp) (p i : Nat), cmpV kon.P .eql 137 x y h (.pointer (some ⟨p, i, none⟩)) (.pointer (none)) = some (.bool false) from by intros; kernel_rfl) <|
  And.intro (show ∀ (x y : Operand) (h : Hp) (p i : Nat), cmpV kon.P .eql 137 x y h (.pointer (none)) (.pointer (some ⟨p, i, none⟩)) = some (.bool false) from by intros; kernel_rfl) <|
  And.intro (show ∀ (x y : Operand) (h : Hp), cmpV kon.P .eql 137 x y h (.pointer (none)) (.pointer (none)) = some (.bool true) from by intros; kernel_rfl) <|
  And.intro (L_cmp (C := kon) (t := 137) (by kernel_rfl) (op := .neq) rfl) <|
  And.intro (L_cmpN (C := kon) (t := 137) (by kernel_rfl)) <|
  And.intro (show ∀ (x y : Operand) (h : Hp) (p i : Nat), cmpV kon.P .neq 137 x y h (.pointer (some ⟨p, i, none⟩)) (.pointer (none)) = some (.bool true) from by intros; kernel_rfl) <|
  And.intro (show ∀ (x y : Operand) (h : Hp) (p i : Nat), cmpV kon.P .neq 137 x y h (.pointer (none)) (.pointer (some ⟨p, i, none⟩)) = some (.bool true) from by intros; kernel_rfl) <|
  And.intro (show ∀ (x y : Operand) (h : Hp), cmpV kon.P .neq 137 x y h (.pointer (none)) (.pointer (none)) = some (.bool false) from by intros; kernel_rfl) <|
  And.intro (L_index (C := kon) (t := 9) (by kernel_rfl)) <|
  And.intro (L_bin (C := kon) (t := 5) (by kernel_rfl)) <|
  And.intro (L_append (C := kon) (t := 46) (u := 46) (e := 9) (by kernel_rfl)) <|
  And.intro (L_sliceStr (C := kon) (t := 9) (by kernel_rfl)) <|
  And.intro (show ∀ (b o : Nat), evFieldAddr kon.P 126 (.pointer (some ⟨b, o, none⟩)) 0 = some (.pointer (some ⟨b, o + 0, none⟩)) from by intros; kernel_rfl) <|
  And.intro (show ∀ (b o : Nat), evFieldAddr kon.P 126 (.pointer (some ⟨b, o, none⟩)) 2 = some (.pointer (some ⟨b, o + 2, none⟩)) from by intros; kernel_rfl) <|
  (show ∀ (b o : Nat), evFieldAddr kon.P 120 (.pointer (some ⟨b, o, none⟩)) 3 = some (.pointer (some ⟨b, o + 3, none⟩)) from by intros; kernel_rfl)) :=
  And.intro (show ∀ (n1 : Int) (n2 : Int), evBuild kon.P 40 [(0, (.int .i64 n1)), (2, (.int .i64 n2))] = some (.agg #[.int .i64 n1, .int .i64 0, .int .i64 n2, .string ByteArray.empty, .bool false, .slice none 0 0, .int .i64 0, .int .i64 0, .int .i64 0, .int .i64 0]) from by intros; kernel_rfl) <|
  And.intro (show ∀ (a1 : Option Addr) (a2 : Option Addr) (k3 : Nat) (k4 : Nat), evBuild kon.P 120 [(0, (.pointer a1)), (2, (.slice a2 k3 k4))] = some (.agg #[.pointer a1, .int .i64 0, .slice a2 k3 k4, .int .i64 0]) from by intros; kernel_rfl) <|
  And.intro (show ∀ (b o : Nat), evFieldAddr kon.P 120 (.pointer (some ⟨b, o, none⟩)) 0 = some (.pointer (some ⟨b, o + 0, none⟩)) from by intros; kernel_rfl) <|
  And.intro (show ∀ (b o : Nat), evFieldAddr kon.P 120 (.pointer (some ⟨b, o, none⟩)) 1 = some (.pointer (some ⟨b, o + 1, none⟩)) from by intros; kernel_rfl) <|
  And.intro (show ∀ (b o : Nat), evFieldAddr kon.P 118 (.pointer (some ⟨b, o, none⟩)) 0 = some (.pointer (some ⟨b, o + 0, none⟩)) from by intros; kernel_rfl) <|
  And.intro (L_loadC (C := kon) (t := 27) (by kernel_rfl)) <|
  And.intro (show ∀ (b o : Nat), evFieldAddr kon.P 118 (.pointer (some ⟨b, o, none⟩)) 1 = some (.pointer (some ⟨b, o + 1, none⟩)) from by intros; kernel_rfl) <|
  And.intro (show evBuild kon.P 62 [] = some (.agg #[.bool false, .bool false, .bool false]) from by intros; kernel_rfl) <|
  And.intro (show ∀ (b o : Nat), evFieldAddr kon.P 65 (.pointer (some ⟨b, o, none⟩)) 0 = some (.pointer (some ⟨b, o + 0, none⟩)) from by intros; kernel_rfl) <|
  And.intro (show ∀ (b o : Nat), evFieldAddr kon.P 65 (.pointer (some ⟨b, o, none⟩)) 1 = some (.pointer (some ⟨b, o + 1, none⟩)) from by intros; kernel_rfl) <|
  And.intro (show ∀ (b o : Nat), evFieldAddr kon.P 62 (.pointer (some ⟨b, o, none⟩)) 0 = some (.pointer (some ⟨b, o + 0, none⟩)) from by intros; kernel_rfl) <|
  And.intro (show ∀ (b o : Nat), evFieldAddr kon.P 62 (.pointer (some ⟨b, o, none⟩)) 1 = some (.pointer (some ⟨b, o + 1, none⟩)) from by intros; kernel_rfl) <|
  And.intro (show ∀ (b o : Nat), evFieldAddr kon.P 62 (.pointer (some ⟨b, o, none⟩)) 2 = some (.pointer (some ⟨b, o + 2, none⟩)) from by intros; kernel_rfl) <|
  And.intro (L_alloc (C := kon) (t := 65) (z := (.agg #[.string ByteArray.empty, .bool false, .bool false, .bool false])) (cs := [.string ByteArray.empty, .bool false, .bool false, .bool false]) (by kernel_rfl) (by kernel_rfl) (by kernel_rfl)) <|
  And.intro (L_store (C := kon) (t := 65) (n := 4) (by kernel_rfl)) <|
  And.intro (L_bin (C := kon) (t := 30) (by kernel_rfl)) <|
  And.intro (show ∀ (x y : Operand) (p i l q : Nat), evBin kon.P .eql 30 x y (.slice (some ⟨p, i, none⟩) l q) (.slice none 0 0) = some (.bool false) from by intros; kernel_rfl) <|
  And.intro (show ∀ (x y : Operand), evBin kon.P .eql 30 x y (.slice none 0 0) (.slice none 0 0) = some (.bool true) from by intros; kernel_rfl) <|
  And.intro (L_buildSlice (C := kon) (t := 30) (e := 65) (n := 4) (z := (.agg #[.string ByteArray.empty, .bool false, .bool false, .bool false])) (zs := [.string ByteArray.empty, .bool false, .bool false, .bool false]) (len := 0) (by kernel_rfl) (by kernel_rfl) (by kernel_rfl) (by kernel_rfl) (by kernel_rfl) (by kernel_rfl)) <|
  And.intro (show litRow 65 4 0 [.string ByteArray.empty, .bool false, .bool false, .bool false] [] = some (mkRow 65 0 []) from by intros; kernel_rfl) <|
  And.intro (L_cmp (C := kon) (t := 137) (by kernel_rfl) (op := .eql) rfl) <|
  And.intro (L_cmpE (C := kon) (t := 137) (by kernel_rfl)) <|
  And.intro (show ∀ (x y : Operand) (h : Hp) (p i : Nat), cmpV kon.P .eql 137 x y h (.pointer (some ⟨p, i, none⟩)) (.pointer (none)) = some (.bool false) from by intros; kernel_rfl) <|
  And.intro (show ∀ (x y : Operand) (h : Hp) (p i : Nat), cmpV kon.P .eql 137 x y h (.pointer (none)) (.pointer (some ⟨p, i, none⟩)) = some (.bool false) from by intros; kernel_rfl) <|
  And.intro (show ∀ (x y : Operand) (h : Hp), cmpV kon.P .eql 137 x y h (.pointer (none)) (.pointer (none)) = some (.bool true) from by intros; kernel_rfl) <|
  And.intro (L_cmp (C := kon) (t := 137) (by kernel_rfl) (op := .neq) rfl) <|
  And.intro (L_cmpN (C := kon) (t := 137) (by kernel_rfl)) <|
  And.intro (show ∀ (x y : Operand) (h : Hp) (p i : Nat), cmpV kon.P .neq 137 x y h (.pointer (some ⟨p, i, none⟩)) (.pointer (none)) = some (.bool true) from by intros; kernel_rfl) <|
  And.intro (show ∀ (x y : Operand) (h : Hp) (p i : Nat), cmpV kon.P .neq 137 x y h (.pointer (none)) (.pointer (some ⟨p, i, none⟩)) = some (.bool true) from by intros; kernel_rfl) <|
  And.intro (show ∀ (x y : Operand) (h : Hp), cmpV kon.P .neq 137 x y h (.pointer (none)) (.pointer (none)) = some (.bool false) from by intros; kernel_rfl) <|
  And.intro (L_index (C := kon) (t := 9) (by kernel_rfl)) <|
  And.intro (L_bin (C := kon) (t := 5) (by kernel_rfl)) <|
  And.intro (L_append (C := kon) (t := 46) (u := 46) (e := 9) (by kernel_rfl)) <|
  And.intro (L_sliceStr (C := kon) (t := 9) (by kernel_rfl)) <|
  And.intro (show ∀ (b o : Nat), evFieldAddr kon.P 126 (.pointer (some ⟨b, o, none⟩)) 0 = some (.pointer (some ⟨b, o + 0, none⟩)) from by intros; kernel_rfl) <|
  And.intro (show ∀ (b o : Nat), evFieldAddr kon.P 126 (.pointer (some ⟨b, o, none⟩)) 2 = some (.pointer (some ⟨b, o + 2, none⟩)) from by intros; kernel_rfl) <|
  (show ∀ (b o : Nat), evFieldAddr kon.P 120 (.pointer (some ⟨b, o, none⟩)) 3 = some (.pointer (some ⟨b, o + 3, none⟩)) from by intros; kernel_rfl)
theorem typs : type_of% typ1 ∧ type_of% typ2 ∧ type_of% typ3 ∧ type_of% typ4 ∧ type_of% typ5 ∧ type_of% typ6 :=
  ⟨typ1, typ2, typ3, typ4, typ5, typ6⟩
end Go.Proofs.YtncmgiddcefpcaaGreatDoor
namespace Go.Proofs.YtncmgiddcefpcaaGreatDoor
open Go Go.Ev Go.Con
set_option linter.unusedSimpArgs false
set_option linter.unusedVariables false
set_option maxRecDepth 100000
def strs (l : List ByteArray) : List Value := l.map Value.string
abbrev StrSl (h : Hp) (v : Value) (l : List ByteArray) : Prop := SlAt h 1 v (strs l)
theorem wrap64 {x : Int} (h1 : -9223372036854775808 ≤ x) (h2 : x ≤ 9223372036854775807) : IntKind.i64.wrap x = x := by
  simp [IntKind.wrap, IntKind.signed, IntKind.bits]; omega
theorem StrSl.len {h : Hp} {v : Value} {l : List ByteArray} (s : StrSl h v l) : evLen kon.P 46 v = some (.int .i64 l.length) := by
  rcases s with ⟨rfl, hl⟩ | ⟨b, o, k, c, all, rfl, h2, h3, h4, h5, h6⟩
  · have : l = [] := by simpa [strs] using hl
    subst this
    exact evLen_slice (e := 9) (by kernel_rfl)
  · have : l.length = k := by simpa [strs] using h5
    subst this
    exact evLen_slice (e := 9) (by kernel_rfl)
theorem StrSl.at {h : Hp} {v : Value} {l : List ByteArray} (s : StrSl h v l) {i : Nat} {x : ByteArray} (hi : l[i]? = some x) : ∃ p, evIndexAddr kon.P 46 v (.int .i64 i) = some p ∧ evLoad kon.P 9 p h = some (.string x) := by
  have hlt : i < l.length := (List.getElem?_eq_some_iff.1 hi).1
  rcases s with ⟨rfl, hl⟩ | ⟨b, o, k, c, all, rfl, h2, h3, h4, h5, h6⟩
  · have : l = [] := by simpa [strs] using hl
    subst this; simp at hlt
  · have hk : l.length = k := by simpa [strs] using h5
    subst hk
    refine ⟨_, L_indexAddr (C := kon) (t := 46) (e := 9) (n := 1) (by kernel_rfl) (by kernel_rfl) b o l.length c .i64 i (by omega) (by omega), ?_⟩
    rw [L_loadC (C := kon) (t := 9) (by kernel_rfl), h4]
    simp only [Option.bind_some, cellAt, Int.toNat_natCast, Nat.mul_one]
    have : (strs l)[i]? = some (.string x) := by simp [strs, hi]
    rw [← h6, List.getElem?_take, if_pos (by omega), List.getElem?_drop] at this
    exact this
theorem byteAt_get {s : ByteArray} {i : Nat} (h : i < s.size) : s.data.toList[i]? = some (byteAt s i) := by
  unfold byteAt
  have : i < s.data.toList.length := by rw [Array.length_toList]; exact h
  rw [List.getD_eq_getElem?_getD, List.getElem?_eq_getElem this]; rfl
theorem plainB_false {s : ByteArray} {m i : Nat} (h : i < s.size) (hs : signB (byteAt s i) = false) : plainB s m = false := by
  unfold plainB
  have : s.data.toList.all signB = false := by
    rw [Bool.eq_false_iff]; intro hall
    rw [List.all_eq_true] at hall
    have := hall _ (List.mem_of_getElem? (byteAt_get h))
    rw [hs] at this; cases this
  rw [this, Bool.and_false]
theorem ix62 : evIndex kon.P 9 (.string ⟨#[62]⟩) (.int .i64 0) = some (.int .u8 62) := by kernel_rfl
theorem ixAt {s : ByteArray} {i : Nat} (h : i < s.size) : evIndex kon.P 9 (.string s) (.int .i64 i) = some (.int .u8 ((byteAt s i).toNat : Int)) := by
  have := L_index (C := kon) (t := 9) (by kernel_rfl) s .i64 i (by omega) (by omega)
  simpa using this
theorem signs_spec (s : ByteArray) (m : Nat) (mi : Int) (he : mi = (m : Int)) (hm : m ≤ 1000) (h : Hp) : Meets kon 83 [.string s, .int .i64 mi] h fun v h' => v = .bool (plainB s m) ∧ h' = h := by
  subst he
  refine Meets.mk rfl (by kernel_rfl) Tryz.func83 rfl (congrArg Array.toList Tryz.results83) ?_
  rcases Bool.eq_false_or_eq_true (decide ((s.size : Int) < 1)) with e1 | e1
  · simp only [evr, nextP_norm, evd, evq, beq_self_eq_true, cond_true, cond_false, reduceIte, Nat.reduceEqDiff, Nat.reduceAdd, Int.reduceBNe, Int.reduceBEq, Int.reduceLT, Int.reduceLE, Int.reduceEq, typs, e1]
    have : ¬ 1 ≤ s.size := by simp at e1; omega
    simp [plainB, this]
  rcases Bool.eq_false_or_eq_true (decide ((m : Int) < s.size)) with e2 | e2
  · simp only [evr, nextP_norm, evd, evq, beq_self_eq_true, cond_true, cond_false, reduceIte, Nat.reduceEqDiff, Nat.reduceAdd, Int.reduceBNe, Int.reduceBEq, Int.reduceLT, Int.reduceLE, Int.reduceEq, typs, e1, e2]
    have : ¬ s.size ≤ m := by simp at e2; omega
    simp [plainB, this]
  simp only [evr, nextP_norm, evd, evq, beq_self_eq_true, cond_true, cond_false, reduceIte, Nat.reduceEqDiff, Nat.reduceAdd, Int.reduceBNe, Int.reduceBEq, Int.reduceLT, Int.reduceLE, Int.reduceEq, typs, e1, e2]
  have h1 : 1 ≤ s.size := by simp at e1; omega
  have h2 : s.size ≤ m := by simp at e2; omega
  refine Wp_loop (fun k fr h' => h' = h ∧ ∃ i : Nat, k = s.size - i ∧ i ≤ s.size ∧ fr.get 0 = some (.string s) ∧ fr.get 16 = some (.int .i64 s.size) ∧ fr.get 17 = some (.int .i64 i) ∧ (s.data.toList.take i).all signB = true) s.size ⟨rfl, 0, rfl, Nat.zero_le _, ?_, ?_, ?_, rfl⟩ ?_
  · simp only [evr, nextP_norm, evd, evq, beq_self_eq_true, cond_true, cond_false, reduceIte, Nat.reduceEqDiff, Nat.reduceAdd, Int.reduceBNe, Int.reduceBEq, Int.reduceLT, Int.reduceLE, Int.reduceEq, typs]
  · simp only [evr, nextP_norm, evd, evq, beq_self_eq_true, cond_true, cond_false, reduceIte, Nat.reduceEqDiff, Nat.reduceAdd, Int.reduceBNe, Int.reduceBEq, Int.reduceLT, Int.reduceLE, Int.reduceEq, typs]
  · simp only [evr, nextP_norm, evd, evq, beq_self_eq_true, cond_true, cond_false, reduceIte, Nat.reduceEqDiff, Nat.reduceAdd, Int.reduceBNe, Int.reduceBEq, Int.reduceLT, Int.reduceLE, Int.reduceEq, typs]
    rfl
  rintro k fr h' ⟨rfl, i, rfl, hi, g0, g16, g17, hp⟩
  by_cases h3 : i < s.size
  · have e3 : decide ((i : Int) < s.size) = true := by simp; omega
    have hx := ixAt h3
    simp only [evr, nextP_norm, evd, evq, beq_self_eq_true, cond_true, cond_false, reduceIte, Nat.reduceEqDiff, Nat.reduceAdd, Int.reduceBNe, Int.reduceBEq, Int.reduceLT, Int.reduceLE, Int.reduceEq, typs, g0, g16, g17, e3]
    refine Eq.mpr (Wp_drawOrd (KR.mk (by kernel_rfl))) ?_
    cases hb : signB (byteAt s i) with
    | false =>
      have hf := plainB_false (m := m) h3 hb
      rcases Bool.eq_false_or_eq_true (decide (((byteAt s i).toNat : Int) < 33)) with e4 | e4
      · simp only [evr, nextP_norm, evd, evq, beq_self_eq_true, cond_true, cond_false, reduceIte, Nat.reduceEqDiff, Nat.reduceAdd, Int.reduceBNe, Int.reduceBEq, Int.reduceLT, Int.reduceLE, Int.reduceEq, typs, g0, g16, g17, hx, ix62, e4]
        rw [hf]
      rcases Bool.eq_false_or_eq_true (decide ((126 : Int) < ((byteAt s i).toNat : Int))) with e5 | e5
      · simp only [evr, nextP_norm, evd, evq, beq_self_eq_true, cond_true, cond_false, reduceIte, Nat.reduceEqDiff, Nat.reduceAdd, Int.reduceBNe, Int.reduceBEq, Int.reduceLT, Int.reduceLE, Int.reduceEq, typs, g0, g16, g17, hx, ix62, e4, e5]
        rw [hf]
      have e6 : (((byteAt s i).toNat : Int) == 62) = true := by
        simp [signB] at hb e4 e5 ⊢; omega
      simp only [evr, nextP_norm, evd, evq, beq_self_eq_true, cond_true, cond_false, reduceIte, Nat.reduceEqDiff, Nat.reduceAdd, Int.reduceBNe, Int.reduceBEq, Int.reduceLT, Int.reduceLE, Int.reduceEq, typs, g0, g16, g17, hx, ix62, e4, e5, e6]
      rw [hf]
    | true =>
      have ⟨e4, e5, e6⟩ : decide (((byteAt s i).toNat : Int) < 33) = false ∧ decide ((126 : Int) < ((byteAt s i).toNat : Int)) = false ∧ (((byteAt s i).toNat : Int) == 62) = false := by
        simp [signB] at hb ⊢; omega
      simp only [evr, nextP_norm, evd, evq, beq_self_eq_true, cond_true, cond_false, reduceIte, Nat.reduceEqDiff, Nat.reduceAdd, Int.reduceBNe, Int.reduceBEq, Int.reduceLT, Int.reduceLE, Int.reduceEq, typs, g0, g16, g17, hx, ix62, e4, e5, e6, wrap64 (x := (i : Int) + 1) (by omega) (by omega)]
      refine ⟨s.size - (i + 1), by omega, i + 1, rfl, by omega, rfl, ?_⟩
      rw [List.take_add_one, byteAt_get h3, List.all_append, hp]
      simp [hb]
  · have e3 : decide ((i : Int) < s.size) = false := by simp; omega
    simp only [evr, nextP_norm, evd, evq, beq_self_eq_true, cond_true, cond_false, reduceIte, Nat.reduceEqDiff, Nat.reduceAdd, Int.reduceBNe, Int.reduceBEq, Int.reduceLT, Int.reduceLE, Int.reduceEq, typs, g0, g16, g17, e3]
    have : i = s.data.toList.length := by rw [Array.length_toList]; exact (show i = s.size by omega)
    rw [List.take_of_length_le (by omega)] at hp
    simp [plainB, h1, h2, hp]
theorem may_spec (s : ByteArray) (h : Hp) : Meets kon 51 [.string s] h fun v h' => v = .bool (mayN s) ∧ h' = h := by
  refine Meets.mk rfl (by kernel_rfl) Tryz.func51 rfl (congrArg Array.toList Tryz.results51) ?_
  simp only [evr, nextP_norm, evd, evq, beq_self_eq_true, cond_true, cond_false, reduceIte, Nat.reduceEqDiff, Nat.reduceAdd, Int.reduceBNe, Int.reduceBEq, Int.reduceLT, Int.reduceLE, Int.reduceEq, typs, (signs_spec s 32 32 rfl (by omega) h).call]
theorem user_spec (s : ByteArray) (h : Hp) : Meets kon 109 [.string s] h fun v h' => v = .bool (mayU s) ∧ h' = h := by
  refine Meets.mk rfl (by kernel_rfl) Tryz.func109 rfl (congrArg Array.toList Tryz.results109) ?_
  simp only [evr, nextP_norm, evd, evq, beq_self_eq_true, cond_true, cond_false, reduceIte, Nat.reduceEqDiff, Nat.reduceAdd, Int.reduceBNe, Int.reduceBEq, Int.reduceLT, Int.reduceLE, Int.reduceEq, typs, (signs_spec s 16 16 rfl (by omega) h).call]
theorem plain_spec (s : ByteArray) (m : Nat) (mi : Int) (he : mi = (m : Int)) (hm : m ≤ 1000) (h : Hp) : Meets kon 103 [.string s, .int .i64 mi] h fun v h' => v = .bool (plainB s m) ∧ h' = h := by
  subst he
  refine Meets.mk rfl (by kernel_rfl) Tryz.func103 rfl (congrArg Array.toList Tryz.results103) ?_
  rcases Bool.eq_false_or_eq_true (decide ((s.size : Int) < 1)) with e1 | e1
  · simp only [evr, nextP_norm, evd, evq, beq_self_eq_true, cond_true, cond_false, reduceIte, Nat.reduceEqDiff, Nat.reduceAdd, Int.reduceBNe, Int.reduceBEq, Int.reduceLT, Int.reduceLE, Int.reduceEq, typs, e1]
    have : ¬ 1 ≤ s.size := by simp at e1; omega
    simp [plainB, this]
  rcases Bool.eq_false_or_eq_true (decide ((m : Int) < s.size)) with e2 | e2
  · simp only [evr, nextP_norm, evd, evq, beq_self_eq_true, cond_true, cond_false, reduceIte, Nat.reduceEqDiff, Nat.reduceAdd, Int.reduceBNe, Int.reduceBEq, Int.reduceLT, Int.reduceLE, Int.reduceEq, typs, e1, e2]
    have : ¬ s.size ≤ m := by simp at e2; omega
    simp [plainB, this]
  simp only [evr, nextP_norm, evd, evq, beq_self_eq_true, cond_true, cond_false, reduceIte, Nat.reduceEqDiff, Nat.reduceAdd, Int.reduceBNe, Int.reduceBEq, Int.reduceLT, Int.reduceLE, Int.reduceEq, typs, e1, e2]
  have h1 : 1 ≤ s.size := by simp at e1; omega
  have h2 : s.size ≤ m := by simp at e2; omega
  refine Wp_loop (fun k fr h' => h' = h ∧ ∃ i : Nat, k = s.size - i ∧ i ≤ s.size ∧ fr.get 0 = some (.string s) ∧ fr.get 5 = some (.int .i64 i) ∧ (s.data.toList.take i).all signB = true) s.size ⟨rfl, 0, rfl, Nat.zero_le _, ?_, ?_, rfl⟩ ?_
  · simp only [evr, nextP_norm, evd, evq, beq_self_eq_true, cond_true, cond_false, reduceIte, Nat.reduceEqDiff, Nat.reduceAdd, Int.reduceBNe, Int.reduceBEq, Int.reduceLT, Int.reduceLE, Int.reduceEq, typs]
  · simp only [evr, nextP_norm, evd, evq, beq_self_eq_true, cond_true, cond_false, reduceIte, Nat.reduceEqDiff, Nat.reduceAdd, Int.reduceBNe, Int.reduceBEq, Int.reduceLT, Int.reduceLE, Int.reduceEq, typs]
    rfl
  rintro k fr h' ⟨rfl, i, rfl, hi, g0, g5, hp⟩
  by_cases h3 : i < s.size
  · have e3 : decide ((i : Int) < s.size) = true := by simp; omega
    have hx := ixAt h3
    cases hb : signB (byteAt s i) with
    | false =>
      have hf := plainB_false (m := m) h3 hb
      rcases Bool.eq_false_or_eq_true (decide (((byteAt s i).toNat : Int) < 33)) with e4 | e4
      · simp only [evr, nextP_norm, evd, evq, beq_self_eq_true, cond_true, cond_false, reduceIte, Nat.reduceEqDiff, Nat.reduceAdd, Int.reduceBNe, Int.reduceBEq, Int.reduceLT, Int.reduceLE, Int.reduceEq, typs, g0, g5, e3, hx, e4]
        rw [hf]
      rcases Bool.eq_false_or_eq_true (decide ((126 : Int) < ((byteAt s i).toNat : Int))) with e5 | e5
      · simp only [evr, nextP_norm, evd, evq, beq_self_eq_true, cond_true, cond_false, reduceIte, Nat.reduceEqDiff, Nat.reduceAdd, Int.reduceBNe, Int.reduceBEq, Int.reduceLT, Int.reduceLE, Int.reduceEq, typs, g0, g5, e3, hx, e4, e5]
        rw [hf]
      have e6 : (((byteAt s i).toNat : Int) == 62) = true := by
        simp [signB] at hb e4 e5 ⊢; omega
      simp only [evr, nextP_norm, evd, evq, beq_self_eq_true, cond_true, cond_false, reduceIte, Nat.reduceEqDiff, Nat.reduceAdd, Int.reduceBNe, Int.reduceBEq, Int.reduceLT, Int.reduceLE, Int.reduceEq, typs, g0, g5, e3, hx, e4, e5, e6]
      rw [hf]
    | true =>
      have ⟨e4, e5, e6⟩ : decide (((byteAt s i).toNat : Int) < 33) = false ∧ decide ((126 : Int) < ((byteAt s i).toNat : Int)) = false ∧ (((byteAt s i).toNat : Int) == 62) = false := by
        simp [signB] at hb ⊢; omega
      simp only [evr, nextP_norm, evd, evq, beq_self_eq_true, cond_true, cond_false, reduceIte, Nat.reduceEqDiff, Nat.reduceAdd, Int.reduceBNe, Int.reduceBEq, Int.reduceLT, Int.reduceLE, Int.reduceEq, typs, g0, g5, e3, hx, e4, e5, e6, wrap64 (x := (i : Int) + 1) (by omega) (by omega)]
      refine ⟨s.size - (i + 1), by omega, i + 1, rfl, by omega, rfl, ?_⟩
      rw [List.take_add_one, byteAt_get h3, List.all_append, hp]
      simp [hb]
  · have e3 : decide ((i : Int) < s.size) = false := by simp; omega
    simp only [evr, nextP_norm, evd, evq, beq_self_eq_true, cond_true, cond_false, reduceIte, Nat.reduceEqDiff, Nat.reduceAdd, Int.reduceBNe, Int.reduceBEq, Int.reduceLT, Int.reduceLE, Int.reduceEq, typs, g0, g5, e3]
    have : i = s.data.toList.length := by rw [Array.length_toList]; exact (show i = s.size by omega)
    rw [List.take_of_length_le (by omega)] at hp
    simp [plainB, h1, h2, hp]
theorem nameMay_spec (s : ByteArray) (h : Hp) : Meets kon 79 [.string s] h fun v h' => v = .bool (mayN s) ∧ h' = h := by
  refine Meets.mk rfl (by kernel_rfl) Tryz.func79 rfl (congrArg Array.toList Tryz.results79) ?_
  simp only [evr, nextP_norm, evd, evq, beq_self_eq_true, cond_true, cond_false, reduceIte, Nat.reduceEqDiff, Nat.reduceAdd, Int.reduceBNe, Int.reduceBEq, Int.reduceLT, Int.reduceLE, Int.reduceEq, typs, (plain_spec s 32 32 rfl (by omega) h).call]
end Go.Proofs.YtncmgiddcefpcaaGreatDoor
namespace Go.Proofs.YtncmgiddcefpcaaGreatDoor
open Go Go.Ev Go.Con
set_option linter.unusedSimpArgs false
set_option linter.unusedVariables false
set_option maxRecDepth 100000
theorem stroke_size : (ByteArray.mk #[62]).size = 1 := rfl
theorem head_of {s : ByteArray} (h : 1 ≤ s.size) : ∃ c l, s.data.toList = c :: l ∧ (s.extract 1 s.size).data.toList = l ∧ (s.extract 0 1).data.toList = [c] := by
  have hl : 1 ≤ s.data.toList.length := by rw [Array.length_toList]; exact h
  cases hs : s.data.toList with
  | nil => rw [hs] at hl; simp at hl
  | cons c l =>
    have e1 : (s.extract 1 s.size).data.toList = l := by
      rw [ByteArray.data_extract, Array.toList_extract, List.extract_eq_take_drop, hs]
      have : s.size = (c :: l).length := by rw [← hs, Array.length_toList]; rfl
      rw [this]; simp
    have e2 : (s.extract 0 1).data.toList = [c] := by
      rw [ByteArray.data_extract, Array.toList_extract, List.extract_eq_take_drop, hs]; simp
    exact ⟨c, l, rfl, e1, e2⟩
theorem prefixS_spec (s : ByteArray) (h : Hp) : Meets kon 114 [.string s, .string ⟨#[62]⟩] h fun v h' => v = .bool (s.data.toList.head? == some 62) ∧ h' = h := by
  refine Meets.mk rfl (by kernel_rfl) Tryz.func114 rfl (congrArg Array.toList Tryz.results114) ?_
  rcases Bool.eq_false_or_eq_true (decide ((1 : Int) ≤ s.size)) with e1 | e1
  · have h1 : 1 ≤ s.size := by simp at e1; omega
    obtain ⟨c, l, hc, _, h2⟩ := head_of h1
    have hsl := (L_sliceStr (C := kon) (t := 9) (by kernel_rfl)).2.2 s .i64 1 (by omega) (by omega)
    have he : decide (s.extract 0 (Int.toNat 1) = (ByteArray.mk #[62])) = (s.data.toList.head? == some 62) := by
      rw [hc, Bool.eq_iff_iff]
      simp only [decide_eq_true_eq, List.head?_cons, beq_iff_eq, Option.some.injEq]
      constructor
      · intro e
        have : (s.extract 0 1).data.toList = [62] := by rw [show s.extract 0 1 = (ByteArray.mk #[62]) from e]
        rw [h2] at this; simpa using this
      · rintro rfl
        exact ba_ext h2
    simp only [evr, nextP_norm, evd, evq, beq_self_eq_true, cond_true, cond_false, reduceIte, Nat.reduceEqDiff, Nat.reduceAdd, Int.reduceBNe, Int.reduceBEq, Int.reduceLT, Int.reduceLE, Int.reduceEq, typs, stroke_size, Int.natCast_one, e1, hsl, he]
  · simp only [evr, nextP_norm, evd, evq, beq_self_eq_true, cond_true, cond_false, reduceIte, Nat.reduceEqDiff, Nat.reduceAdd, Int.reduceBNe, Int.reduceBEq, Int.reduceLT, Int.reduceLE, Int.reduceEq, typs, stroke_size, Int.natCast_one, e1]
    have : s.data.toList = [] := List.length_eq_zero_iff.1 (by rw [Array.length_toList]; simp at e1; show s.size = 0; omega)
    rw [this]; rfl
theorem prefix_spec (s : ByteArray) (h : Hp) : Meets kon 105 [.string s, .string ⟨#[62]⟩] h fun v h' => v = .bool (s.data.toList.head? == some 62) ∧ h' = h := by
  refine Meets.mk rfl (by kernel_rfl) Tryz.func105 rfl (congrArg Array.toList Tryz.results105) ?_
  simp only [evr, nextP_norm, evd, evq, beq_self_eq_true, cond_true, cond_false, reduceIte, Nat.reduceEqDiff, Nat.reduceAdd, Int.reduceBNe, Int.reduceBEq, Int.reduceLT, Int.reduceLE, Int.reduceEq, typs, (prefixS_spec s h).call]
def splitHp (h : Hp) (s : ByteArray) : Hp := h.push (.row (strs ((cut s.data.toList).map ofL)) 9 (.rw 0 []))
def splitSl (h : Hp) (s : ByteArray) : Value := .slice (some ⟨h.next, 0, none⟩) (cut s.data.toList).length (2 * (cut s.data.toList).length)
theorem splitLib_spec (s : ByteArray) (h : Hp) (hs : s.size < 4294967281) : Meets kon 106 [.string s, .string ⟨#[62]⟩] h fun v h' => v = splitSl h s ∧ h' = splitHp h s := by
  have hb := splitB_cut s
  have hl : Lib.countB s (ofL [62]) + 1 = (cut s.data.toList).length := by
    have hk := splitK_cut (Lib.count s.data.toList [62]) s.data.toList rfl
    have key : ∀ (n : Nat) (l : List UInt8), Lib.count l [62] = n → (Lib.splitK [62] 0 n l).length = n + 1 := by
      intro n
      induction n with
      | zero => intro l _; rfl
      | succ n ih =>
        intro l hc
        have hm : ¬ Lib.index l [62] = -1 := fun e => by rw [Lib.count_miss e] at hc; omega
        have hg := Lib.index_ge l [62]
        obtain ⟨i, hi⟩ : ∃ i : Nat, Lib.index l [62] = i := ⟨(Lib.index l [62]).toNat, by omega⟩
        rw [Lib.count_hit (by simp) hi] at hc
        have e : (Lib.index l [62]).toNat = i := by omega
        unfold Lib.splitK
        rw [if_neg (fun e => hm (beq_iff_eq.1 e)), e]
        have h5 : ([62] : List UInt8).length = 1 := rfl
        rw [h5] at hc
        exact congrArg Nat.succ (ih _ (by rw [h5]; omega))
    have := key _ s.data.toList rfl
    rw [hk] at this
    exact this.symm
  refine ⟨_, _, Ret.sum (s := sumSplit 9) rfl (v := splitSl h s) (h' := splitHp h s) ?_, rfl, rfl⟩
  show (bif decide (s.size < 4294967281) && decide (1 ≤ (ofL [62]).size) then some (Value.slice (some ⟨h.next, 0, none⟩) (Lib.countB s (ofL [62]) + 1) (2 * (Lib.countB s (ofL [62]) + 1)), h.push (.row ((Lib.splitB (ofL [62]) 0 (Lib.countB s (ofL [62])) s).map Value.string) 9 (.rw 0 []))) else none) = _
  rw [decide_eq_true hs, hb, hl]
  rfl
theorem splitHp_keep (h : Hp) (s : ByteArray) : Keep h (splitHp h s) := Keep.push _ _
theorem splitSl_grown (h : Hp) (s : ByteArray) : Grown h.next (splitHp h s) (splitSl h s) 9 1 (strs ((cut s.data.toList).map ofL)) := by
  have h1 : 1 ≤ (cut s.data.toList).length := by have := cut_ne s.data.toList; cases h : cut s.data.toList <;> simp_all
  exact .inr ⟨h.next, _, 0, [], 0, rfl, by omega, by simp [strs], h1, Nat.lt_succ_self _, Hp.get_push_self _ _, by simp [strs]; exact h1, Nat.le_refl _, by simp⟩
def SplitP (s : ByteArray) (h : Hp) (v : Value) (h' : Hp) : Prop := Keep h h' ∧ match split s with
  | none => v = .tuple #[.slice none 0 0, .int .i64 3]
  | some ps => ∃ sl, v = .tuple #[sl, .int .i64 0] ∧ Grown h.next h' sl 9 1 (strs ps)
theorem SplitP.no {s : ByteArray} {h h' : Hp} (k : Keep h h') (e : split s = none) : SplitP s h (.tuple #[.slice none 0 0, .int .i64 3]) h' := ⟨k, by rw [e]⟩
theorem SplitP.yes {s : ByteArray} {h h' : Hp} {ps : List ByteArray} {sl : Value} (k : Keep h h') (e : split s = some ps) (g : Grown h.next h' sl 9 1 (strs ps)) : SplitP s h (.tuple #[sl, .int .i64 0]) h' := ⟨k, by rw [e]; exact ⟨sl, rfl, g⟩⟩
theorem split_long {s : ByteArray} (h : 168 < s.size) : split s = none := by
  unfold split
  split
  · rfl
  · rename_i c l hs
    have : s.size = l.length + 1 := by rw [size_eq, hs]; rfl
    split
    · split
      · rename_i hl; subst hl; simp at this; omega
      · rfl
    · rfl
theorem split_head {s : ByteArray} (h : (s.data.toList.head? == some 62) = false) : split s = none := by
  unfold split
  split
  · rfl
  · rename_i c l hs
    rw [hs] at h
    simp at h
    rw [if_neg h]
theorem split_at {s : ByteArray} {l : List UInt8} (hs : s.data.toList = 62 :: l) (hl : l ≠ []) (hz : s.size ≤ 168) : split s = if 16 < (cut l).length then none else if ((cut l).map ofL).all mayN then some ((cut l).map ofL) else none := by
  unfold split
  rw [hs]
  simp only [if_true, if_neg hl, if_neg (show ¬ 168 < s.size by omega)]
theorem split_root : split ⟨#[62]⟩ = some [] := rfl
theorem split_spec (s : ByteArray) (h : Hp) : Meets kon 84 [.string s] h (SplitP s h) := by
  refine Meets.mk rfl (by kernel_rfl) Tryz.func84 rfl (congrArg Array.toList Tryz.results84) ?_
  rcases Bool.eq_false_or_eq_true (decide (s = (ByteArray.mk #[62]))) with e1 | e1
  · simp only [evr, nextP_norm, evd, evq, beq_self_eq_true, cond_true, cond_false, reduceIte, Nat.reduceEqDiff, Nat.reduceAdd, Int.reduceBNe, Int.reduceBEq, Int.reduceLT, Int.reduceLE, Int.reduceEq, typs, e1]
    obtain rfl := of_decide_eq_true e1
    exact .yes (Keep.refl _) split_root (.inl ⟨rfl, rfl⟩)
  rcases Bool.eq_false_or_eq_true (decide ((168 : Int) < s.size)) with e2 | e2
  · simp only [evr, nextP_norm, evd, evq, beq_self_eq_true, cond_true, cond_false, reduceIte, Nat.reduceEqDiff, Nat.reduceAdd, Int.reduceBNe, Int.reduceBEq, Int.reduceLT, Int.reduceLE, Int.reduceEq, typs, e1, e2]
    exact .no (Keep.refl _) (split_long (by simp at e2; omega))
  have hz : s.size ≤ 168 := by simp at e2; omega
  rcases Bool.eq_false_or_eq_true (s.data.toList.head? == some 62) with e3 | e3
  · obtain ⟨l, hl⟩ : ∃ l, s.data.toList = 62 :: l := by
      cases hs : s.data.toList with
      | nil => rw [hs] at e3; simp at e3
      | cons c l => rw [hs] at e3; simp at e3; exact ⟨l, by rw [e3]⟩
    have hs1 : 1 ≤ s.size := by rw [size_eq, hl]; simp
    have hl0 : l ≠ [] := by
      rintro rfl
      exact absurd (ba_ext (a := s) (b := ByteArray.mk #[62]) hl) (of_decide_eq_false e1)
    obtain ⟨c, l', hc, h1, _⟩ := head_of hs1
    have hll : l' = l := by rw [hl] at hc; exact (List.cons.inj hc).2.symm
    subst hll
    have hsl := (L_sliceStr (C := kon) (t := 9) (by kernel_rfl)).1 s .i64 1 (by omega) (by omega)
    rw [show Int.toNat 1 = 1 from rfl] at hsl
    generalize hu : s.extract 1 s.size = u at hsl h1
    have hus : u.size < 4294967281 := by
      rw [size_eq, h1]
      have : s.size = l'.length + 1 := by rw [size_eq, hl]; rfl
      omega
    simp only [evr, nextP_norm, evd, evq, beq_self_eq_true, cond_true, cond_false, reduceIte, Nat.reduceEqDiff, Nat.reduceAdd, Int.reduceBNe, Int.reduceBEq, Int.reduceLT, Int.reduceLE, Int.reduceEq, typs, e1, e2, (prefix_spec s h).call, e3, hsl, (splitLib_spec u h hus).call]
    have hlen : evLen kon.P 46 (splitSl h u) = some (.int .i64 ((cut l').length : Nat)) := by rw [← h1]; exact evLen_slice (e := 9) (by kernel_rfl)
    have hk := splitHp_keep h u
    have hg := splitSl_grown h u
    rw [h1] at hg
    have hst : StrSl (splitHp h u) (splitSl h u) ((cut l').map ofL) := hg.slAt
    have hsp := split_at hl hl0 hz
    generalize splitSl h u = sl at *
    generalize splitHp h u = h1 at *
    rcases Bool.eq_false_or_eq_true (decide ((16 : Int) < (cut l').length)) with e4 | e4
    · simp only [evr, nextP_norm, evd, evq, beq_self_eq_true, cond_true, cond_false, reduceIte, Nat.reduceEqDiff, Nat.reduceAdd, Int.reduceBNe, Int.reduceBEq, Int.reduceLT, Int.reduceLE, Int.reduceEq, typs, hlen, e4]
      exact .no hk (by rw [hsp, if_pos (by simp at e4; omega)])
    simp only [evr, nextP_norm, evd, evq, beq_self_eq_true, cond_true, cond_false, reduceIte, Nat.reduceEqDiff, Nat.reduceAdd, Int.reduceBNe, Int.reduceBEq, Int.reduceLT, Int.reduceLE, Int.reduceEq, typs, hlen, e4]
    have h16 : (cut l').length ≤ 16 := by simp at e4; omega
    rw [if_neg (by omega)] at hsp
    refine Wp_loop (fun k fr h' => h' = h1 ∧ ∃ i : Nat, k = (cut l').length - i ∧ i ≤ (cut l').length ∧ fr.get 4 = some sl ∧ fr.get 23 = some sl ∧ fr.get 24 = some (.int .i64 (cut l').length) ∧ fr.get 25 = some (.int .i64 i) ∧
      (((cut l').map ofL).take i).all mayN = true) (cut l').length ⟨rfl, 0, rfl, Nat.zero_le _, ?_, ?_, ?_, ?_, rfl⟩ ?_
    · simp only [evr, nextP_norm, evd, evq, beq_self_eq_true, cond_true, cond_false, reduceIte, Nat.reduceEqDiff, Nat.reduceAdd, Int.reduceBNe, Int.reduceBEq, Int.reduceLT, Int.reduceLE, Int.reduceEq, typs]
    · simp only [evr, nextP_norm, evd, evq, beq_self_eq_true, cond_true, cond_false, reduceIte, Nat.reduceEqDiff, Nat.reduceAdd, Int.reduceBNe, Int.reduceBEq, Int.reduceLT, Int.reduceLE, Int.reduceEq, typs]
    · simp only [evr, nextP_norm, evd, evq, beq_self_eq_true, cond_true, cond_false, reduceIte, Nat.reduceEqDiff, Nat.reduceAdd, Int.reduceBNe, Int.reduceBEq, Int.reduceLT, Int.reduceLE, Int.reduceEq, typs]
    · simp only [evr, nextP_norm, evd, evq, beq_self_eq_true, cond_true, cond_false, reduceIte, Nat.reduceEqDiff, Nat.reduceAdd, Int.reduceBNe, Int.reduceBEq, Int.reduceLT, Int.reduceLE, Int.reduceEq, typs]
      rfl
    rintro k fr h' ⟨rfl, i, rfl, hi, g4, g23, g24, g25, hp⟩
    by_cases h3 : i < (cut l').length
    · have e5 : decide ((i : Int) < (cut l').length) = true := by simp; omega
      obtain ⟨x, hx⟩ : ∃ x, ((cut l').map ofL)[i]? = some x := ⟨_, List.getElem?_eq_getElem (by simpa using h3)⟩
      obtain ⟨p, ha, hld⟩ := hst.at hx
      cases hm : mayN x with
      | false =>
        simp only [evr, nextP_norm, evd, evq, beq_self_eq_true, cond_true, cond_false, reduceIte, Nat.reduceEqDiff, Nat.reduceAdd, Int.reduceBNe, Int.reduceBEq, Int.reduceLT, Int.reduceLE, Int.reduceEq, typs, g4, g23, g24, g25, e5, ha, hld, (may_spec x h').call, hm]
        refine .no hk ?_
        rw [hsp, if_neg]
        intro hall
        rw [List.all_eq_true] at hall
        have := hall x (List.mem_of_getElem? hx)
        rw [hm] at this; cases this
      | true =>
        simp only [evr, nextP_norm, evd, evq, beq_self_eq_true, cond_true, cond_false, reduceIte, Nat.reduceEqDiff, Nat.reduceAdd, Int.reduceBNe, Int.reduceBEq, Int.reduceLT, Int.reduceLE, Int.reduceEq, typs, g4, g23, g24, g25, e5, ha, hld, (may_spec x h').call, hm, wrap64 (x := (i : Int) + 1) (by omega) (by omega)]
        refine ⟨(cut l').length - (i + 1), by omega, i + 1, rfl, by omega, rfl, ?_⟩
        rw [List.take_add_one, hx, List.all_append, hp]
        simp [hm]
    · have e5 : decide ((i : Int) < (cut l').length) = false := by simp; omega
      simp only [evr, nextP_norm, evd, evq, beq_self_eq_true, cond_true, cond_false, reduceIte, Nat.reduceEqDiff, Nat.reduceAdd, Int.reduceBNe, Int.reduceBEq, Int.reduceLT, Int.reduceLE, Int.reduceEq, typs, g4, g23, g24, g25, e5]
      rw [List.take_of_length_le (by simp; omega)] at hp
      exact .yes hk (by rw [hsp, if_pos hp]) hg
  · simp only [evr, nextP_norm, evd, evq, beq_self_eq_true, cond_true, cond_false, reduceIte, Nat.reduceEqDiff, Nat.reduceAdd, Int.reduceBNe, Int.reduceBEq, Int.reduceLT, Int.reduceLE, Int.reduceEq, typs, e1, e2, (prefix_spec s h).call, e3]
    exact .no (Keep.refl _) (split_head e3)
end Go.Proofs.YtncmgiddcefpcaaGreatDoor
