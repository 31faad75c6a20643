/- Texts joined: what the claim needs of them. No condition. -/
import Derived.Test.YtojcfpgapfceiaaDoorEvM3
import Derived.Test.YtojcfpgapfceiaaDoorBin4
namespace Go.Proofs.YtojcfpgapfceiaaDoor
open Go Go.Ev
set_option maxRecDepth 100000
theorem typ1 : type_of% (
  And.intro (L_cmp (C := kon) (t := 29) (by kernel_rfl) (op := .eql) rfl) <|
  And.intro (L_cmpE (C := kon) (t := 29) (by kernel_rfl)) <|
  And.intro (show ∀ (x y : Operand) (h : Hp) (p i : Nat), cmpV kon.P .eql 29 x y h (.pointer (some ⟨p, i, none⟩)) (.pointer (none)) = some (.bool false) from by intros; kernel_rfl) <|
  And.intro (show ∀ (x y : Operand) (h : Hp) (p i : Nat), cmpV kon.P .eql 29 x y h (.pointer (none)) (.pointer (some ⟨p, i, none⟩)) = some (.bool false) from by intros; kernel_rfl) <|
  And.intro (show ∀ (x y : Operand) (h : Hp), cmpV kon.P .eql 29 x y h (.pointer (none)) (.pointer (none)) = some (.bool true) from by intros; kernel_rfl) <|
  And.intro (L_cmp (C := kon) (t := 31) (by kernel_rfl) (op := .eql) rfl) <|
  And.intro (L_cmpE (C := kon) (t := 31) (by kernel_rfl)) <|
  And.intro (show ∀ (x y : Operand) (h : Hp) (p i : Nat), cmpV kon.P .eql 31 x y h (.pointer (some ⟨p, i, none⟩)) (.pointer (none)) = some (.bool false) from by intros; kernel_rfl) <|
  And.intro (show ∀ (x y : Operand) (h : Hp) (p i : Nat), cmpV kon.P .eql 31 x y h (.pointer (none)) (.pointer (some ⟨p, i, none⟩)) = some (.bool false) from by intros; kernel_rfl) <|
  And.intro (show ∀ (x y : Operand) (h : Hp), cmpV kon.P .eql 31 x y h (.pointer (none)) (.pointer (none)) = some (.bool true) from by intros; kernel_rfl) <|
  And.intro (show ∀ (b o : Nat), evFieldAddr kon.P 26 (.pointer (some ⟨b, o, none⟩)) 5 = some (.pointer (some ⟨b, o + 5, none⟩)) from by intros; kernel_rfl) <|
  And.intro (L_loadC (C := kon) (t := 22) (by kernel_rfl)) <|
  And.intro (L_len (C := kon) (t := 22) (by kernel_rfl)) <|
  And.intro (L_lenSl (C := kon) (t := 22) (e := 54) (by kernel_rfl)) <|
  And.intro (L_bin (C := kon) (t := 3) (by kernel_rfl)) <|
  And.intro (L_cmp (C := kon) (t := 29) (by kernel_rfl) (op := .neq) rfl) <|
  And.intro (L_cmpN (C := kon) (t := 29) (by kernel_rfl)) <|
  And.intro (show ∀ (x y : Operand) (h : Hp) (p i : Nat), cmpV kon.P .neq 29 x y h (.pointer (some ⟨p, i, none⟩)) (.pointer (none)) = some (.bool true) from by intros; kernel_rfl) <|
  And.intro (show ∀ (x y : Operand) (h : Hp) (p i : Nat), cmpV kon.P .neq 29 x y h (.pointer (none)) (.pointer (some ⟨p, i, none⟩)) = some (.bool true) from by intros; kernel_rfl) <|
  And.intro (show ∀ (x y : Operand) (h : Hp), cmpV kon.P .neq 29 x y h (.pointer (none)) (.pointer (none)) = some (.bool false) from by intros; kernel_rfl) <|
  And.intro (L_cmp (C := kon) (t := 31) (by kernel_rfl) (op := .neq) rfl) <|
  And.intro (L_cmpN (C := kon) (t := 31) (by kernel_rfl)) <|
  And.intro (show ∀ (x y : Operand) (h : Hp) (p i : Nat), cmpV kon.P .neq 31 x y h (.pointer (some ⟨p, i, none⟩)) (.pointer (none)) = some (.bool true) from by intros; kernel_rfl) <|
  And.intro (show ∀ (x y : Operand) (h : Hp) (p i : Nat), cmpV kon.P .neq 31 x y h (.pointer (none)) (.pointer (some ⟨p, i, none⟩)) = some (.bool true) from by intros; kernel_rfl) <|
  And.intro (show ∀ (x y : Operand) (h : Hp), cmpV kon.P .neq 31 x y h (.pointer (none)) (.pointer (none)) = some (.bool false) from by intros; kernel_rfl) <|
  And.intro (L_loadC (C := kon) (t := 5) (by kernel_rfl)) <|
  And.intro (L_convInt (C := kon) (s := 5) (t := 3) (k := .i64) (by kernel_rfl) (by kernel_rfl)) <|
  And.intro (show ∀ (n : Int), prunS kon.P (convert 5 3 (.int .u8 n)) = some (.int .i64 (IntKind.i64.wrap n)) from by intros; kernel_rfl) <|
  And.intro (show ∀ (b o : Nat), evFieldAddr kon.P 26 (.pointer (some ⟨b, o, none⟩)) 0 = some (.pointer (some ⟨b, o + 0, none⟩)) from by intros; kernel_rfl) <|
  And.intro (L_store (C := kon) (t := 3) (n := 1) (by kernel_rfl)) <|
  And.intro (show ∀ (b o : Nat), evFieldAddr kon.P 26 (.pointer (some ⟨b, o, none⟩)) 1 = some (.pointer (some ⟨b, o + 1, none⟩)) from by intros; kernel_rfl) <|
  And.intro (L_loadC (C := kon) (t := 3) (by kernel_rfl)) <|
  And.intro (show ∀ (b o : Nat), evFieldAddr kon.P 26 (.pointer (some ⟨b, o, none⟩)) 4 = some (.pointer (some ⟨b, o + 4, none⟩)) from by intros; kernel_rfl) <|
  And.intro (L_loadC (C := kon) (t := 4) (by kernel_rfl)) <|
  And.intro (show ∀ (b o : Nat), evFieldAddr kon.P 26 (.pointer (some ⟨b, o, none⟩)) 6 = some (.pointer (some ⟨b, o + 6, none⟩)) from by intros; kernel_rfl) <|
  And.intro (L_loadA (C := kon) (t := 24) (n := 4) (by kernel_rfl) (by kernel_rfl)) <|
  And.intro (show ∀ (n1 : Int) (n2 : Int) (b3 : Bool) (a4 : Option Addr) (k5 : Nat) (k6 : Nat) (n7 : Int) (n8 : Int) (n9 : Int) (n10 : Int), evBuild kon.P 37 [(0, (.int .i64 n1)), (1, (.int .i64 n2)), (4, (.bool b3)), (5, (.slice a4 k5 k6)), (6, (.agg #[.int .i64 n7, .int .i64 n8, .int .i64 n9, .int .i64 n10]))] = some (.agg #[.int .i64 n1, .int .i64 n2, .int .i64 0, .string ByteArray.empty, .bool b3, .slice a4 k5 k6, .int .i64 n7, .int .i64 n8, .int .i64 n9, .int .i64 n10]) from by intros; kernel_rfl) <|
  And.intro (L_bin (C := kon) (t := 33) (by kernel_rfl)) <|
  And.intro (L_alloc (C := kon) (t := 41) (z := (.agg #[.int .i64 0, .int .i64 0, .bool false, .bool false, .bool false, .int .i64 0, .int .i64 0, .int .i64 0, .int .i64 0])) (cs := [.int .i64 0, .int .i64 0, .bool false, .bool false, .bool false, .int .i64 0, .int .i64 0, .int .i64 0, .int .i64 0]) (by kernel_rfl) (by kernel_rfl) (by kernel_rfl)) <|
  (L_store (C := kon) (t := 41) (n := 9) (by kernel_rfl))) :=
  And.intro (L_cmp (C := kon) (t := 29) (by kernel_rfl) (op := .eql) rfl) <|
  And.intro (L_cmpE (C := kon) (t := 29) (by kernel_rfl)) <|
  And.intro (show ∀ (x y : Operand) (h : Hp) (p i : Nat), cmpV kon.P .eql 29 x y h (.pointer (some ⟨p, i, none⟩)) (.pointer (none)) = some (.bool false) from by intros; kernel_rfl) <|
  And.intro (show ∀ (x y : Operand) (h : Hp) (p i : Nat), cmpV kon.P .eql 29 x y h (.pointer (none)) (.pointer (some ⟨p, i, none⟩)) = some (.bool false) from by intros; kernel_rfl) <|
  And.intro (show ∀ (x y : Operand) (h : Hp), cmpV kon.P .eql 29 x y h (.pointer (none)) (.pointer (none)) = some (.bool true) from by intros; kernel_rfl) <|
  And.intro (L_cmp (C := kon) (t := 31) (by kernel_rfl) (op := .eql) rfl) <|
  And.intro (L_cmpE (C := kon) (t := 31) (by kernel_rfl)) <|
  And.intro (show ∀ (x y : Operand) (h : Hp) (p i : Nat), cmpV kon.P .eql 31 x y h (.pointer (some ⟨p, i, none⟩)) (.pointer (none)) = some (.bool false) from by intros; kernel_rfl) <|
  And.intro (show ∀ (x y : Operand) (h : Hp) (p i : Nat), cmpV kon.P .eql 31 x y h (.pointer (none)) (.pointer (some ⟨p, i, none⟩)) = some (.bool false) from by intros; kernel_rfl) <|
  And.intro (show ∀ (x y : Operand) (h : Hp), cmpV kon.P .eql 31 x y h (.pointer (none)) (.pointer (none)) = some (.bool true) from by intros; kernel_rfl) <|
  And.intro (show ∀ (b o : Nat), evFieldAddr kon.P 26 (.pointer (some ⟨b, o, none⟩)) 5 = some (.pointer (some ⟨b, o + 5, none⟩)) from by intros; kernel_rfl) <|
  And.intro (L_loadC (C := kon) (t := 22) (by kernel_rfl)) <|
  And.intro (L_len (C := kon) (t := 22) (by kernel_rfl)) <|
  And.intro (L_lenSl (C := kon) (t := 22) (e := 54) (by kernel_rfl)) <|
  And.intro (L_bin (C := kon) (t := 3) (by kernel_rfl)) <|
  And.intro (L_cmp (C := kon) (t := 29) (by kernel_rfl) (op := .neq) rfl) <|
  And.intro (L_cmpN (C := kon) (t := 29) (by kernel_rfl)) <|
  And.intro (show ∀ (x y : Operand) (h : Hp) (p i : Nat), cmpV kon.P .neq 29 x y h (.pointer (some ⟨p, i, none⟩)) (.pointer (none)) = some (.bool true) from by intros; kernel_rfl) <|
  And.intro (show ∀ (x y : Operand) (h : Hp) (p i : Nat), cmpV kon.P .neq 29 x y h (.pointer (none)) (.pointer (some ⟨p, i, none⟩)) = some (.bool true) from by intros; kernel_rfl) <|
  And.intro (show ∀ (x y : Operand) (h : Hp), cmpV kon.P .neq 29 x y h (.pointer (none)) (.pointer (none)) = some (.bool false) from by intros; kernel_rfl) <|
  And.intro (L_cmp (C := kon) (t := 31) (by kernel_rfl) (op := .neq) rfl) <|
  And.intro (L_cmpN (C := kon) (t := 31) (by kernel_rfl)) <|
  And.intro (show ∀ (x y : Operand) (h : Hp) (p i : Nat), cmpV kon.P .neq 31 x y h (.pointer (some ⟨p, i, none⟩)) (.pointer (none)) = some (.bool true) from by intros; kernel_rfl) <|
  And.intro (show ∀ (x y : Operand) (h : Hp) (p i : Nat), cmpV kon.P .neq 31 x y h (.pointer (none)) (.pointer (some ⟨p, i, none⟩)) = some (.bool true) from by intros; kernel_rfl) <|
  And.intro (show ∀ (x y : Operand) (h : Hp), cmpV kon.P .neq 31 x y h (.pointer (none)) (.pointer (none)) = some (.bool false) from by intros; kernel_rfl) <|
  And.intro (L_loadC (C := kon) (t := 5) (by kernel_rfl)) <|
  And.intro (L_convInt (C := kon) (s := 5) (t := 3) (k := .i64) (by kernel_rfl) (by kernel_rfl)) <|
  And.intro (show ∀ (n : Int), prunS kon.P (convert 5 3 (.int .u8 n)) = some (.int .i64 (IntKind.i64.wrap n)) from by intros; kernel_rfl) <|
  And.intro (show ∀ (b o : Nat), evFieldAddr kon.P 26 (.pointer (some ⟨b, o, none⟩)) 0 = some (.pointer (some ⟨b, o + 0, none⟩)) from by intros; kernel_rfl) <|
  And.intro (L_store (C := kon) (t := 3) (n := 1) (by kernel_rfl)) <|
  And.intro (show ∀ (b o : Nat), evFieldAddr kon.P 26 (.pointer (some ⟨b, o, none⟩)) 1 = some (.pointer (some ⟨b, o + 1, none⟩)) from by intros; kernel_rfl) <|
  And.intro (L_loadC (C := kon) (t := 3) (by kernel_rfl)) <|
  And.intro (show ∀ (b o : Nat), evFieldAddr kon.P 26 (.pointer (some ⟨b, o, none⟩)) 4 = some (.pointer (some ⟨b, o + 4, none⟩)) from by intros; kernel_rfl) <|
  And.intro (L_loadC (C := kon) (t := 4) (by kernel_rfl)) <|
  And.intro (show ∀ (b o : Nat), evFieldAddr kon.P 26 (.pointer (some ⟨b, o, none⟩)) 6 = some (.pointer (some ⟨b, o + 6, none⟩)) from by intros; kernel_rfl) <|
  And.intro (L_loadA (C := kon) (t := 24) (n := 4) (by kernel_rfl) (by kernel_rfl)) <|
  And.intro (show ∀ (n1 : Int) (n2 : Int) (b3 : Bool) (a4 : Option Addr) (k5 : Nat) (k6 : Nat) (n7 : Int) (n8 : Int) (n9 : Int) (n10 : Int), evBuild kon.P 37 [(0, (.int .i64 n1)), (1, (.int .i64 n2)), (4, (.bool b3)), (5, (.slice a4 k5 k6)), (6, (.agg #[.int .i64 n7, .int .i64 n8, .int .i64 n9, .int .i64 n10]))] = some (.agg #[.int .i64 n1, .int .i64 n2, .int .i64 0, .string ByteArray.empty, .bool b3, .slice a4 k5 k6, .int .i64 n7, .int .i64 n8, .int .i64 n9, .int .i64 n10]) from by intros; kernel_rfl) <|
  And.intro (L_bin (C := kon) (t := 33) (by kernel_rfl)) <|
  And.intro (L_alloc (C := kon) (t := 41) (z := (.agg #[.int .i64 0, .int .i64 0, .bool false, .bool false, .bool false, .int .i64 0, .int .i64 0, .int .i64 0, .int .i64 0])) (cs := [.int .i64 0, .int .i64 0, .bool false, .bool false, .bool false, .int .i64 0, .int .i64 0, .int .i64 0, .int .i64 0]) (by kernel_rfl) (by kernel_rfl) (by kernel_rfl)) <|
  (L_store (C := kon) (t := 41) (n := 9) (by kernel_rfl))
theorem typ2 : type_of% (
  And.intro (L_buildSlice (C := kon) (t := 44) (e := 9) (n := 1) (z := (.string ByteArray.empty)) (zs := [.string ByteArray.empty]) (len := 4) (by kernel_rfl) (by kernel_rfl) (by kernel_rfl) (by kernel_rfl) (by kernel_rfl) (by kernel_rfl)) <|
  And.intro (show ∀ (s1 : ByteArray) (s2 : ByteArray) (s3 : ByteArray) (s4 : ByteArray), litRow 9 1 4 [.string ByteArray.empty] [(0, (.string s1)), (1, (.string s2)), (2, (.string s3)), (3, (.string s4))] = some (mkRow 9 4 [.string s1, .string s2, .string s3, .string s4]) from by intros; kernel_rfl) <|
  And.intro (L_indexArr (C := kon) (t := 27) (m := 3) (e := 3) (n := 1) (by kernel_rfl) (by kernel_rfl)) <|
  And.intro (L_indexAddr (C := kon) (t := 44) (e := 9) (n := 1) (by kernel_rfl) (by kernel_rfl)) <|
  And.intro (L_loadC (C := kon) (t := 9) (by kernel_rfl)) <|
  And.intro (L_alloc (C := kon) (t := 39) (z := (.agg #[.bool false, .bool false, .bool false])) (cs := [.bool false, .bool false, .bool false]) (by kernel_rfl) (by kernel_rfl) (by kernel_rfl)) <|
  And.intro (L_store (C := kon) (t := 39) (n := 3) (by kernel_rfl)) <|
  And.intro (show ∀ (b o : Nat), evFieldAddr kon.P 39 (.pointer (some ⟨b, o, none⟩)) 1 = some (.pointer (some ⟨b, o + 1, none⟩)) from by intros; kernel_rfl) <|
  And.intro (L_store (C := kon) (t := 4) (n := 1) (by kernel_rfl)) <|
  And.intro (show ∀ (b o : Nat), evFieldAddr kon.P 41 (.pointer (some ⟨b, o, none⟩)) 0 = some (.pointer (some ⟨b, o + 0, none⟩)) from by intros; kernel_rfl) <|
  And.intro (show ∀ (b o : Nat), evFieldAddr kon.P 41 (.pointer (some ⟨b, o, none⟩)) 1 = some (.pointer (some ⟨b, o + 1, none⟩)) from by intros; kernel_rfl) <|
  And.intro (show ∀ (b o : Nat), evFieldAddr kon.P 41 (.pointer (some ⟨b, o, none⟩)) 2 = some (.pointer (some ⟨b, o + 2, none⟩)) from by intros; kernel_rfl) <|
  And.intro (L_loadA (C := kon) (t := 39) (n := 3) (by kernel_rfl) (by kernel_rfl)) <|
  And.intro (L_bin (C := kon) (t := 39) (by kernel_rfl)) <|
  And.intro (show ∀ (b o : Nat), evFieldAddr kon.P 41 (.pointer (some ⟨b, o, none⟩)) 3 = some (.pointer (some ⟨b, o + 5, none⟩)) from by intros; kernel_rfl) <|
  And.intro (L_bin (C := kon) (t := 24) (by kernel_rfl)) <|
  And.intro (L_alloc (C := kon) (t := 3) (z := (.int .i64 0)) (cs := [.int .i64 0]) (by kernel_rfl) (by kernel_rfl) (by kernel_rfl)) <|
  And.intro (L_loadA (C := kon) (t := 41) (n := 9) (by kernel_rfl) (by kernel_rfl)) <|
  And.intro (show ∀ (b1 : Bool), evBuild kon.P 39 [(0, (.bool b1))] = some (.agg #[.bool b1, .bool false, .bool false]) from by intros; kernel_rfl) <|
  And.intro (show ∀ (s1 : ByteArray) (b2 : Bool) (b3 : Bool) (b4 : Bool), evBuild kon.P 54 [(0, (.string s1)), (1, (.agg #[.bool b2, .bool b3, .bool b4]))] = some (.agg #[.string s1, .bool b2, .bool b3, .bool b4]) from by intros; kernel_rfl) <|
  And.intro (L_buildSlice (C := kon) (t := 22) (e := 54) (n := 4) (z := (.agg #[.string ByteArray.empty, .bool false, .bool false, .bool false])) (zs := [.string ByteArray.empty, .bool false, .bool false, .bool false]) (len := 1) (by kernel_rfl) (by kernel_rfl) (by kernel_rfl) (by kernel_rfl) (by kernel_rfl) (by kernel_rfl)) <|
  And.intro (show ∀ (s1 : ByteArray) (b2 : Bool) (b3 : Bool) (b4 : Bool), litRow 54 4 1 [.string ByteArray.empty, .bool false, .bool false, .bool false] [(0, (.agg #[.string s1, .bool b2, .bool b3, .bool b4]))] = some (mkRow 54 1 [.string s1, .bool b2, .bool b3, .bool b4]) from by intros; kernel_rfl) <|
  And.intro (show ∀ (n1 : Int) (n2 : Int) (n3 : Int), evBuild kon.P 24 [(0, (.int .i64 n1)), (1, (.int .i64 n2)), (2, (.int .i64 n3))] = some (.agg #[.int .i64 n1, .int .i64 n2, .int .i64 n3, .int .i64 0]) from by intros; kernel_rfl) <|
  And.intro (show ∀ (n1 : Int) (n2 : Int) (a3 : Option Addr) (k4 : Nat) (k5 : Nat) (n6 : Int) (n7 : Int) (n8 : Int) (n9 : Int), evBuild kon.P 37 [(0, (.int .i64 n1)), (1, (.int .i64 n2)), (5, (.slice a3 k4 k5)), (6, (.agg #[.int .i64 n6, .int .i64 n7, .int .i64 n8, .int .i64 n9]))] = some (.agg #[.int .i64 n1, .int .i64 n2, .int .i64 0, .string ByteArray.empty, .bool false, .slice a3 k4 k5, .int .i64 n6, .int .i64 n7, .int .i64 n8, .int .i64 n9]) from by intros; kernel_rfl) <|
  And.intro (show ∀ (b o : Nat), evFieldAddr kon.P 39 (.pointer (some ⟨b, o, none⟩)) 0 = some (.pointer (some ⟨b, o + 0, none⟩)) from by intros; kernel_rfl) <|
  And.intro (L_makeMap (C := kon) (t := 55) (kt := 84) (et := 67) (by kernel_rfl)) <|
  And.intro (L_makeMap (C := kon) (t := 56) (kt := 3) (et := 3) (by kernel_rfl)) <|
  And.intro (L_makeMap (C := kon) (t := 57) (kt := 3) (et := 67) (by kernel_rfl)) <|
  And.intro (show ∀ (m1 : Option Nat) (m2 : Option Nat) (m3 : Option Nat), evBuild kon.P 59 [(0, (.map m1)), (1, (.map m2)), (2, (.map m3))] = some (.agg #[.map m1, .map m2, .map m3, .int .i64 0]) from by intros; kernel_rfl) <|
  And.intro (L_makeMap (C := kon) (t := 60) (kt := 3) (et := 63) (by kernel_rfl)) <|
  And.intro (show ∀ (n1 : Int) (m2 : Option Nat), evBuild kon.P 62 [(0, (.int .i64 n1)), (3, (.map m2))] = some (.agg #[.int .i64 n1, .int .i64 0, .int .i64 0, .map m2]) from by intros; kernel_rfl) <|
  And.intro (show ∀ (b o : Nat), evFieldAddr kon.P 62 (.pointer (some ⟨b, o, none⟩)) 2 = some (.pointer (some ⟨b, o + 2, none⟩)) from by intros; kernel_rfl) <|
  And.intro (show ∀ (b o : Nat), evFieldAddr kon.P 62 (.pointer (some ⟨b, o, none⟩)) 3 = some (.pointer (some ⟨b, o + 3, none⟩)) from by intros; kernel_rfl) <|
  And.intro (L_loadC (C := kon) (t := 60) (by kernel_rfl)) <|
  And.intro (show ∀ (b o : Nat), evFieldAddr kon.P 62 (.pointer (some ⟨b, o, none⟩)) 1 = some (.pointer (some ⟨b, o + 1, none⟩)) from by intros; kernel_rfl) <|
  And.intro (L_cmp (C := kon) (t := 67) (by kernel_rfl) (op := .neq) rfl) <|
  And.intro (L_cmpN (C := kon) (t := 67) (by kernel_rfl)) <|
  And.intro (show ∀ (x y : Operand) (h : Hp) (p i : Nat), cmpV kon.P .neq 67 x y h (.pointer (some ⟨p, i, none⟩)) (.pointer (none)) = some (.bool true) from by intros; kernel_rfl) <|
  And.intro (show ∀ (x y : Operand) (h : Hp) (p i : Nat), cmpV kon.P .neq 67 x y h (.pointer (none)) (.pointer (some ⟨p, i, none⟩)) = some (.bool true) from by intros; kernel_rfl) <|
  (show ∀ (x y : Operand) (h : Hp), cmpV kon.P .neq 67 x y h (.pointer (none)) (.pointer (none)) = some (.bool false) from by intros; kernel_rfl)) :=
  And.intro (L_buildSlice (C := kon) (t := 44) (e := 9) (n := 1) (z := (.string ByteArray.empty)) (zs := [.string ByteArray.empty]) (len := 4) (by kernel_rfl) (by kernel_rfl) (by kernel_rfl) (by kernel_rfl) (by kernel_rfl) (by kernel_rfl)) <|
  And.intro (show ∀ (s1 : ByteArray) (s2 : ByteArray) (s3 : ByteArray) (s4 : ByteArray), litRow 9 1 4 [.string ByteArray.empty] [(0, (.string s1)), (1, (.string s2)), (2, (.string s3)), (3, (.string s4))] = some (mkRow 9 4 [.string s1, .string s2, .string s3, .string s4]) from by intros; kernel_rfl) <|
  And.intro (L_indexArr (C := kon) (t := 27) (m := 3) (e := 3) (n := 1) (by kernel_rfl) (by kernel_rfl)) <|
  And.intro (L_indexAddr (C := kon) (t := 44) (e := 9) (n := 1) (by kernel_rfl) (by kernel_rfl)) <|
  And.intro (L_loadC (C := kon) (t := 9) (by kernel_rfl)) <|
  And.intro (L_alloc (C := kon) (t := 39) (z := (.agg #[.bool false, .bool false, .bool false])) (cs := [.bool false, .bool false, .bool false]) (by kernel_rfl) (by kernel_rfl) (by kernel_rfl)) <|
  And.intro (L_store (C := kon) (t := 39) (n := 3) (by kernel_rfl)) <|
  And.intro (show ∀ (b o : Nat), evFieldAddr kon.P 39 (.pointer (some ⟨b, o, none⟩)) 1 = some (.pointer (some ⟨b, o + 1, none⟩)) from by intros; kernel_rfl) <|
  And.intro (L_store (C := kon) (t := 4) (n := 1) (by kernel_rfl)) <|
  And.intro (show ∀ (b o : Nat), evFieldAddr kon.P 41 (.pointer (some ⟨b, o, none⟩)) 0 = some (.pointer (some ⟨b, o + 0, none⟩)) from by intros; kernel_rfl) <|
  And.intro (show ∀ (b o : Nat), evFieldAddr kon.P 41 (.pointer (some ⟨b, o, none⟩)) 1 = some (.pointer (some ⟨b, o + 1, none⟩)) from by intros; kernel_rfl) <|
  And.intro (show ∀ (b o : Nat), evFieldAddr kon.P 41 (.pointer (some ⟨b, o, none⟩)) 2 = some (.pointer (some ⟨b, o + 2, none⟩)) from by intros; kernel_rfl) <|
  And.intro (L_loadA (C := kon) (t := 39) (n := 3) (by kernel_rfl) (by kernel_rfl)) <|
  And.intro (L_bin (C := kon) (t := 39) (by kernel_rfl)) <|
  And.intro (show ∀ (b o : Nat), evFieldAddr kon.P 41 (.pointer (some ⟨b, o, none⟩)) 3 = some (.pointer (some ⟨b, o + 5, none⟩)) from by intros; kernel_rfl) <|
  And.intro (L_bin (C := kon) (t := 24) (by kernel_rfl)) <|
  And.intro (L_alloc (C := kon) (t := 3) (z := (.int .i64 0)) (cs := [.int .i64 0]) (by kernel_rfl) (by kernel_rfl) (by kernel_rfl)) <|
  And.intro (L_loadA (C := kon) (t := 41) (n := 9) (by kernel_rfl) (by kernel_rfl)) <|
  And.intro (show ∀ (b1 : Bool), evBuild kon.P 39 [(0, (.bool b1))] = some (.agg #[.bool b1, .bool false, .bool false]) from by intros; kernel_rfl) <|
  And.intro (show ∀ (s1 : ByteArray) (b2 : Bool) (b3 : Bool) (b4 : Bool), evBuild kon.P 54 [(0, (.string s1)), (1, (.agg #[.bool b2, .bool b3, .bool b4]))] = some (.agg #[.string s1, .bool b2, .bool b3, .bool b4]) from by intros; kernel_rfl) <|
  And.intro (L_buildSlice (C := kon) (t := 22) (e := 54) (n := 4) (z := (.agg #[.string ByteArray.empty, .bool false, .bool false, .bool false])) (zs := [.string ByteArray.empty, .bool false, .bool false, .bool false]) (len := 1) (by kernel_rfl) (by kernel_rfl) (by kernel_rfl) (by kernel_rfl) (by kernel_rfl) (by kernel_rfl)) <|
  And.intro (show ∀ (s1 : ByteArray) (b2 : Bool) (b3 : Bool) (b4 : Bool), litRow 54 4 1 [.string ByteArray.empty, .bool false, .bool false, .bool false] [(0, (.agg #[.string s1, .bool b2, .bool b3, .bool b4]))] = some (mkRow 54 1 [.string s1, .bool b2, .bool b3, .bool b4]) from by intros; kernel_rfl) <|
  And.intro (show ∀ (n1 : Int) (n2 : Int) (n3 : Int), evBuild kon.P 24 [(0, (.int .i64 n1)), (1, (.int .i64 n2)), (2, (.int .i64 n3))] = some (.agg #[.int .i64 n1, .int .i64 n2, .int .i64 n3, .int .i64 0]) from by intros; kernel_rfl) <|
  And.intro (show ∀ (n1 : Int) (n2 : Int) (a3 : Option Addr) (k4 : Nat) (k5 : Nat) (n6 : Int) (n7 : Int) (n8 : Int) (n9 : Int), evBuild kon.P 37 [(0, (.int .i64 n1)), (1, (.int .i64 n2)), (5, (.slice a3 k4 k5)), (6, (.agg #[.int .i64 n6, .int .i64 n7, .int .i64 n8, .int .i64 n9]))] = some (.agg #[.int .i64 n1, .int .i64 n2, .int .i64 0, .string ByteArray.empty, .bool false, .slice a3 k4 k5, .int .i64 n6, .int .i64 n7, .int .i64 n8, .int .i64 n9]) from by intros; kernel_rfl) <|
  And.intro (show ∀ (b o : Nat), evFieldAddr kon.P 39 (.pointer (some ⟨b, o, none⟩)) 0 = some (.pointer (some ⟨b, o + 0, none⟩)) from by intros; kernel_rfl) <|
  And.intro (L_makeMap (C := kon) (t := 55) (kt := 84) (et := 67) (by kernel_rfl)) <|
  And.intro (L_makeMap (C := kon) (t := 56) (kt := 3) (et := 3) (by kernel_rfl)) <|
  And.intro (L_makeMap (C := kon) (t := 57) (kt := 3) (et := 67) (by kernel_rfl)) <|
  And.intro (show ∀ (m1 : Option Nat) (m2 : Option Nat) (m3 : Option Nat), evBuild kon.P 59 [(0, (.map m1)), (1, (.map m2)), (2, (.map m3))] = some (.agg #[.map m1, .map m2, .map m3, .int .i64 0]) from by intros; kernel_rfl) <|
  And.intro (L_makeMap (C := kon) (t := 60) (kt := 3) (et := 63) (by kernel_rfl)) <|
  And.intro (show ∀ (n1 : Int) (m2 : Option Nat), evBuild kon.P 62 [(0, (.int .i64 n1)), (3, (.map m2))] = some (.agg #[.int .i64 n1, .int .i64 0, .int .i64 0, .map m2]) from by intros; kernel_rfl) <|
  And.intro (show ∀ (b o : Nat), evFieldAddr kon.P 62 (.pointer (some ⟨b, o, none⟩)) 2 = some (.pointer (some ⟨b, o + 2, none⟩)) from by intros; kernel_rfl) <|
  And.intro (show ∀ (b o : Nat), evFieldAddr kon.P 62 (.pointer (some ⟨b, o, none⟩)) 3 = some (.pointer (some ⟨b, o + 3, none⟩)) from by intros; kernel_rfl) <|
  And.intro (L_loadC (C := kon) (t := 60) (by kernel_rfl)) <|
  And.intro (show ∀ (b o : Nat), evFieldAddr kon.P 62 (.pointer (some ⟨b, o, none⟩)) 1 = some (.pointer (some ⟨b, o + 1, none⟩)) from by intros; kernel_rfl) <|
  And.intro (L_cmp (C := kon) (t := 67) (by kernel_rfl) (op := .neq) rfl) <|
  And.intro (L_cmpN (C := kon) (t := 67) (by kernel_rfl)) <|
  And.intro (show ∀ (x y : Operand) (h : Hp) (p i : Nat), cmpV kon.P .neq 67 x y h (.pointer (some ⟨p, i, none⟩)) (.pointer (none)) = some (.bool true) from by intros; kernel_rfl) <|
  And.intro (show ∀ (x y : Operand) (h : Hp) (p i : Nat), cmpV kon.P .neq 67 x y h (.pointer (none)) (.pointer (some ⟨p, i, none⟩)) = some (.bool true) from by intros; kernel_rfl) <|
  (show ∀ (x y : Operand) (h : Hp), cmpV kon.P .neq 67 x y h (.pointer (none)) (.pointer (none)) = some (.bool false) from by intros; kernel_rfl)
theorem typ3 : type_of% (
  And.intro (L_loadA (C := kon) (t := 37) (n := 10) (by kernel_rfl) (by kernel_rfl)) <|
  And.intro (L_alloc (C := kon) (t := 37) (z := (.agg #[.int .i64 0, .int .i64 0, .int .i64 0, .string ByteArray.empty, .bool false, .slice none 0 0, .int .i64 0, .int .i64 0, .int .i64 0, .int .i64 0])) (cs := [.int .i64 0, .int .i64 0, .int .i64 0, .string ByteArray.empty, .bool false, .slice none 0 0, .int .i64 0, .int .i64 0, .int .i64 0, .int .i64 0]) (by kernel_rfl) (by kernel_rfl) (by kernel_rfl)) <|
  And.intro (L_store (C := kon) (t := 37) (n := 10) (by kernel_rfl)) <|
  And.intro (show ∀ (n1 : Int) (n2 : Int) (n3 : Int) (s4 : ByteArray) (b5 : Bool) (a6 : Option Addr) (k7 : Nat) (k8 : Nat) (n9 : Int) (n10 : Int) (n11 : Int) (n12 : Int) (n13 : Int), evBuild kon.P 72 [(0, (.agg #[.int .i64 n1, .int .i64 n2, .int .i64 n3, .string s4, .bool b5, .slice a6 k7 k8, .int .i64 n9, .int .i64 n10, .int .i64 n11, .int .i64 n12])), (1, (.int .i64 n13))] = some (.agg #[.int .i64 n1, .int .i64 n2, .int .i64 n3, .string s4, .bool b5, .slice a6 k7 k8, .int .i64 n9, .int .i64 n10, .int .i64 n11, .int .i64 n12, .int .i64 n13, .int .i64 0]) from by intros; kernel_rfl) <|
  And.intro (show ∀ (b o : Nat), evFieldAddr kon.P 37 (.pointer (some ⟨b, o, none⟩)) 0 = some (.pointer (some ⟨b, o + 0, none⟩)) from by intros; kernel_rfl) <|
  And.intro (show ∀ (b o : Nat), evFieldAddr kon.P 59 (.pointer (some ⟨b, o, none⟩)) 2 = some (.pointer (some ⟨b, o + 2, none⟩)) from by intros; kernel_rfl) <|
  And.intro (L_loadC (C := kon) (t := 57) (by kernel_rfl)) <|
  And.intro (show ∀ (b o : Nat), evFieldAddr kon.P 37 (.pointer (some ⟨b, o, none⟩)) 1 = some (.pointer (some ⟨b, o + 1, none⟩)) from by intros; kernel_rfl) <|
  And.intro (show ∀ (b o : Nat), evFieldAddr kon.P 59 (.pointer (some ⟨b, o, none⟩)) 3 = some (.pointer (some ⟨b, o + 3, none⟩)) from by intros; kernel_rfl) <|
  And.intro (show ∀ (b o : Nat), evFieldAddr kon.P 59 (.pointer (some ⟨b, o, none⟩)) 1 = some (.pointer (some ⟨b, o + 1, none⟩)) from by intros; kernel_rfl) <|
  And.intro (L_loadC (C := kon) (t := 56) (by kernel_rfl)) <|
  And.intro (show ∀ (b o : Nat), evFieldAddr kon.P 37 (.pointer (some ⟨b, o, none⟩)) 2 = some (.pointer (some ⟨b, o + 2, none⟩)) from by intros; kernel_rfl) <|
  And.intro (show evBuild kon.P 41 [] = some (.agg #[.int .i64 0, .int .i64 0, .bool false, .bool false, .bool false, .int .i64 0, .int .i64 0, .int .i64 0, .int .i64 0]) from by intros; kernel_rfl) <|
  And.intro (show ∀ (b o : Nat), evFieldAddr kon.P 37 (.pointer (some ⟨b, o, none⟩)) 5 = some (.pointer (some ⟨b, o + 5, none⟩)) from by intros; kernel_rfl) <|
  And.intro (show ∀ (b o : Nat), evFieldAddr kon.P 37 (.pointer (some ⟨b, o, none⟩)) 6 = some (.pointer (some ⟨b, o + 6, none⟩)) from by intros; kernel_rfl) <|
  And.intro (show ∀ (n1 : Int) (n2 : Int) (b3 : Bool) (b4 : Bool) (b5 : Bool) (n6 : Int) (n7 : Int) (n8 : Int) (n9 : Int), evBuild kon.P 41 [(0, (.int .i64 n1)), (1, (.int .i64 n2)), (2, (.agg #[.bool b3, .bool b4, .bool b5])), (3, (.agg #[.int .i64 n6, .int .i64 n7, .int .i64 n8, .int .i64 n9]))] = some (.agg #[.int .i64 n1, .int .i64 n2, .bool b3, .bool b4, .bool b5, .int .i64 n6, .int .i64 n7, .int .i64 n8, .int .i64 n9]) from by intros; kernel_rfl) <|
  And.intro (show ∀ (b o : Nat), evFieldAddr kon.P 37 (.pointer (some ⟨b, o, none⟩)) 4 = some (.pointer (some ⟨b, o + 4, none⟩)) from by intros; kernel_rfl) <|
  And.intro (show evBuild kon.P 39 [] = some (.agg #[.bool false, .bool false, .bool false]) from by intros; kernel_rfl) <|
  And.intro (L_indexAddr (C := kon) (t := 22) (e := 54) (n := 4) (by kernel_rfl) (by kernel_rfl)) <|
  And.intro (show ∀ (b o : Nat), evFieldAddr kon.P 54 (.pointer (some ⟨b, o, none⟩)) 0 = some (.pointer (some ⟨b, o + 0, none⟩)) from by intros; kernel_rfl) <|
  And.intro (L_bin (C := kon) (t := 9) (by kernel_rfl)) <|
  And.intro (show ∀ (b o : Nat), evFieldAddr kon.P 54 (.pointer (some ⟨b, o, none⟩)) 1 = some (.pointer (some ⟨b, o + 1, none⟩)) from by intros; kernel_rfl) <|
  And.intro (show ∀ (b o : Nat), evFieldAddr kon.P 39 (.pointer (some ⟨b, o, none⟩)) 2 = some (.pointer (some ⟨b, o + 2, none⟩)) from by intros; kernel_rfl) <|
  And.intro (show ∀ (b o : Nat), evFieldAddr kon.P 24 (.pointer (some ⟨b, o, none⟩)) 0 = some (.pointer (some ⟨b, o + 0, none⟩)) from by intros; kernel_rfl) <|
  And.intro (show ∀ (b o : Nat), evFieldAddr kon.P 24 (.pointer (some ⟨b, o, none⟩)) 2 = some (.pointer (some ⟨b, o + 2, none⟩)) from by intros; kernel_rfl) <|
  And.intro (show ∀ (b o : Nat), evFieldAddr kon.P 24 (.pointer (some ⟨b, o, none⟩)) 1 = some (.pointer (some ⟨b, o + 1, none⟩)) from by intros; kernel_rfl) <|
  And.intro (show ∀ (b o : Nat), evFieldAddr kon.P 24 (.pointer (some ⟨b, o, none⟩)) 3 = some (.pointer (some ⟨b, o + 3, none⟩)) from by intros; kernel_rfl) <|
  And.intro (show ∀ (b o : Nat), evFieldAddr kon.P 62 (.pointer (some ⟨b, o, none⟩)) 0 = some (.pointer (some ⟨b, o + 0, none⟩)) from by intros; kernel_rfl) <|
  And.intro (show ∀ (b o : Nat), evFieldAddr kon.P 59 (.pointer (some ⟨b, o, none⟩)) 0 = some (.pointer (some ⟨b, o + 0, none⟩)) from by intros; kernel_rfl) <|
  And.intro (L_loadC (C := kon) (t := 55) (by kernel_rfl)) <|
  And.intro (show ∀ (n1 : Int) (s2 : ByteArray), evBuild kon.P 84 [(0, (.int .i64 n1)), (1, (.string s2))] = some (.agg #[.int .i64 n1, .string s2]) from by intros; kernel_rfl) <|
  And.intro (show evBuild kon.P 37 [] = some (.agg #[.int .i64 0, .int .i64 0, .int .i64 0, .string ByteArray.empty, .bool false, .slice none 0 0, .int .i64 0, .int .i64 0, .int .i64 0, .int .i64 0]) from by intros; kernel_rfl) <|
  And.intro (show ∀ (n1 : Int) (n2 : Int), evBuild kon.P 37 [(0, (.int .i64 n1)), (2, (.int .i64 n2))] = some (.agg #[.int .i64 n1, .int .i64 0, .int .i64 n2, .string ByteArray.empty, .bool false, .slice none 0 0, .int .i64 0, .int .i64 0, .int .i64 0, .int .i64 0]) from by intros; kernel_rfl) <|
  And.intro (show ∀ (b o : Nat), evFieldAddr kon.P 37 (.pointer (some ⟨b, o, none⟩)) 3 = some (.pointer (some ⟨b, o + 3, none⟩)) from by intros; kernel_rfl) <|
  And.intro (show ∀ (n1 : Int) (s2 : ByteArray), evBuild kon.P 37 [(0, (.int .i64 n1)), (3, (.string s2))] = some (.agg #[.int .i64 n1, .int .i64 0, .int .i64 0, .string s2, .bool false, .slice none 0 0, .int .i64 0, .int .i64 0, .int .i64 0, .int .i64 0]) from by intros; kernel_rfl) <|
  And.intro (show ∀ (b o : Nat), evFieldAddr kon.P 72 (.pointer (some ⟨b, o, none⟩)) 2 = some (.pointer (some ⟨b, o + 11, none⟩)) from by intros; kernel_rfl) <|
  And.intro (L_len (C := kon) (t := 63) (by kernel_rfl)) <|
  And.intro (L_lenSl (C := kon) (t := 63) (e := 127) (by kernel_rfl)) <|
  And.intro (L_buildSlice (C := kon) (t := 44) (e := 9) (n := 1) (z := (.string ByteArray.empty)) (zs := [.string ByteArray.empty]) (len := 2) (by kernel_rfl) (by kernel_rfl) (by kernel_rfl) (by kernel_rfl) (by kernel_rfl) (by kernel_rfl)) <|
  (show ∀ (s1 : ByteArray) (s2 : ByteArray), litRow 9 1 2 [.string ByteArray.empty] [(0, (.string s1)), (1, (.string s2))] = some (mkRow 9 2 [.string s1, .string s2]) from by intros; kernel_rfl)) :=
  And.intro (L_loadA (C := kon) (t := 37) (n := 10) (by kernel_rfl) (by kernel_rfl)) <|
  And.intro (L_alloc (C := kon) (t := 37) (z := (.agg #[.int .i64 0, .int .i64 0, .int .i64 0, .string ByteArray.empty, .bool false, .slice none 0 0, .int .i64 0, .int .i64 0, .int .i64 0, .int .i64 0])) (cs := [.int .i64 0, .int .i64 0, .int .i64 0, .string ByteArray.empty, .bool false, .slice none 0 0, .int .i64 0, .int .i64 0, .int .i64 0, .int .i64 0]) (by kernel_rfl) (by kernel_rfl) (by kernel_rfl)) <|
  And.intro (L_store (C := kon) (t := 37) (n := 10) (by kernel_rfl)) <|
  And.intro (show ∀ (n1 : Int) (n2 : Int) (n3 : Int) (s4 : ByteArray) (b5 : Bool) (a6 : Option Addr) (k7 : Nat) (k8 : Nat) (n9 : Int) (n10 : Int) (n11 : Int) (n12 : Int) (n13 : Int), evBuild kon.P 72 [(0, (.agg #[.int .i64 n1, .int .i64 n2, .int .i64 n3, .string s4, .bool b5, .slice a6 k7 k8, .int .i64 n9, .int .i64 n10, .int .i64 n11, .int .i64 n12])), (1, (.int .i64 n13))] = some (.agg #[.int .i64 n1, .int .i64 n2, .int .i64 n3, .string s4, .bool b5, .slice a6 k7 k8, .int .i64 n9, .int .i64 n10, .int .i64 n11, .int .i64 n12, .int .i64 n13, .int .i64 0]) from by intros; kernel_rfl) <|
  And.intro (show ∀ (b o : Nat), evFieldAddr kon.P 37 (.pointer (some ⟨b, o, none⟩)) 0 = some (.pointer (some ⟨b, o + 0, none⟩)) from by intros; kernel_rfl) <|
  And.intro (show ∀ (b o : Nat), evFieldAddr kon.P 59 (.pointer (some ⟨b, o, none⟩)) 2 = some (.pointer (some ⟨b, o + 2, none⟩)) from by intros; kernel_rfl) <|
  And.intro (L_loadC (C := kon) (t := 57) (by kernel_rfl)) <|
  And.intro (show ∀ (b o : Nat), evFieldAddr kon.P 37 (.pointer (some ⟨b, o, none⟩)) 1 = some (.pointer (some ⟨b, o + 1, none⟩)) from by intros; kernel_rfl) <|
  And.intro (show ∀ (b o : Nat), evFieldAddr kon.P 59 (.pointer (some ⟨b, o, none⟩)) 3 = some (.pointer (some ⟨b, o + 3, none⟩)) from by intros; kernel_rfl) <|
  And.intro (show ∀ (b o : Nat), evFieldAddr kon.P 59 (.pointer (some ⟨b, o, none⟩)) 1 = some (.pointer (some ⟨b, o + 1, none⟩)) from by intros; kernel_rfl) <|
  And.intro (L_loadC (C := kon) (t := 56) (by kernel_rfl)) <|
  And.intro (show ∀ (b o : Nat), evFieldAddr kon.P 37 (.pointer (some ⟨b, o, none⟩)) 2 = some (.pointer (some ⟨b, o + 2, none⟩)) from by intros; kernel_rfl) <|
  And.intro (show evBuild kon.P 41 [] = some (.agg #[.int .i64 0, .int .i64 0, .bool false, .bool false, .bool false, .int .i64 0, .int .i64 0, .int .i64 0, .int .i64 0]) from by intros; kernel_rfl) <|
  And.intro (show ∀ (b o : Nat), evFieldAddr kon.P 37 (.pointer (some ⟨b, o, none⟩)) 5 = some (.pointer (some ⟨b, o + 5, none⟩)) from by intros; kernel_rfl) <|
  And.intro (show ∀ (b o : Nat), evFieldAddr kon.P 37 (.pointer (some ⟨b, o, none⟩)) 6 = some (.pointer (some ⟨b, o + 6, none⟩)) from by intros; kernel_rfl) <|
  And.intro (show ∀ (n1 : Int) (n2 : Int) (b3 : Bool) (b4 : Bool) (b5 : Bool) (n6 : Int) (n7 : Int) (n8 : Int) (n9 : Int), evBuild kon.P 41 [(0, (.int .i64 n1)), (1, (.int .i64 n2)), (2, (.agg #[.bool b3, .bool b4, .bool b5])), (3, (.agg #[.int .i64 n6, .int .i64 n7, .int .i64 n8, .int .i64 n9]))] = some (.agg #[.int .i64 n1, .int .i64 n2, .bool b3, .bool b4, .bool b5, .int .i64 n6, .int .i64 n7, .int .i64 n8, .int .i64 n9]) from by intros; kernel_rfl) <|
  And.intro (show ∀ (b o : Nat), evFieldAddr kon.P 37 (.pointer (some ⟨b, o, none⟩)) 4 = some (.pointer (some ⟨b, o + 4, none⟩)) from by intros; kernel_rfl) <|
  And.intro (show evBuild kon.P 39 [] = some (.agg #[.bool false, .bool false, .bool false]) from by intros; kernel_rfl) <|
  And.intro (L_indexAddr (C := kon) (t := 22) (e := 54) (n := 4) (by kernel_rfl) (by kernel_rfl)) <|
  And.intro (show ∀ (b o : Nat), evFieldAddr kon.P 54 (.pointer (some ⟨b, o, none⟩)) 0 = some (.pointer (some ⟨b, o + 0, none⟩)) from by intros; kernel_rfl) <|
  And.intro (L_bin (C := kon) (t := 9) (by kernel_rfl)) <|
  And.intro (show ∀ (b o : Nat), evFieldAddr kon.P 54 (.pointer (some ⟨b, o, none⟩)) 1 = some (.pointer (some ⟨b, o + 1, none⟩)) from by intros; kernel_rfl) <|
  And.intro (show ∀ (b o : Nat), evFieldAddr kon.P 39 (.pointer (some ⟨b, o, none⟩)) 2 = some (.pointer (some ⟨b, o + 2, none⟩)) from by intros; kernel_rfl) <|
  And.intro (show ∀ (b o : Nat), evFieldAddr kon.P 24 (.pointer (some ⟨b, o, none⟩)) 0 = some (.pointer (some ⟨b, o + 0, none⟩)) from by intros; kernel_rfl) <|
  And.intro (show ∀ (b o : Nat), evFieldAddr kon.P 24 (.pointer (some ⟨b, o, none⟩)) 2 = some (.pointer (some ⟨b, o + 2, none⟩)) from by intros; kernel_rfl) <|
  And.intro (show ∀ (b o : Nat), evFieldAddr kon.P 24 (.pointer (some ⟨b, o, none⟩)) 1 = some (.pointer (some ⟨b, o + 1, none⟩)) from by intros; kernel_rfl) <|
  And.intro (show ∀ (b o : Nat), evFieldAddr kon.P 24 (.pointer (some ⟨b, o, none⟩)) 3 = some (.pointer (some ⟨b, o + 3, none⟩)) from by intros; kernel_rfl) <|
  And.intro (show ∀ (b o : Nat), evFieldAddr kon.P 62 (.pointer (some ⟨b, o, none⟩)) 0 = some (.pointer (some ⟨b, o + 0, none⟩)) from by intros; kernel_rfl) <|
  And.intro (show ∀ (b o : Nat), evFieldAddr kon.P 59 (.pointer (some ⟨b, o, none⟩)) 0 = some (.pointer (some ⟨b, o + 0, none⟩)) from by intros; kernel_rfl) <|
  And.intro (L_loadC (C := kon) (t := 55) (by kernel_rfl)) <|
  And.intro (show ∀ (n1 : Int) (s2 : ByteArray), evBuild kon.P 84 [(0, (.int .i64 n1)), (1, (.string s2))] = some (.agg #[.int .i64 n1, .string s2]) from by intros; kernel_rfl) <|
  And.intro (show evBuild kon.P 37 [] = some (.agg #[.int .i64 0, .int .i64 0, .int .i64 0, .string ByteArray.empty, .bool false, .slice none 0 0, .int .i64 0, .int .i64 0, .int .i64 0, .int .i64 0]) from by intros; kernel_rfl) <|
  And.intro (show ∀ (n1 : Int) (n2 : Int), evBuild kon.P 37 [(0, (.int .i64 n1)), (2, (.int .i64 n2))] = some (.agg #[.int .i64 n1, .int .i64 0, .int .i64 n2, .string ByteArray.empty, .bool false, .slice none 0 0, .int .i64 0, .int .i64 0, .int .i64 0, .int .i64 0]) from by intros; kernel_rfl) <|
  And.intro (show ∀ (b o : Nat), evFieldAddr kon.P 37 (.pointer (some ⟨b, o, none⟩)) 3 = some (.pointer (some ⟨b, o + 3, none⟩)) from by intros; kernel_rfl) <|
  And.intro (show ∀ (n1 : Int) (s2 : ByteArray), evBuild kon.P 37 [(0, (.int .i64 n1)), (3, (.string s2))] = some (.agg #[.int .i64 n1, .int .i64 0, .int .i64 0, .string s2, .bool false, .slice none 0 0, .int .i64 0, .int .i64 0, .int .i64 0, .int .i64 0]) from by intros; kernel_rfl) <|
  And.intro (show ∀ (b o : Nat), evFieldAddr kon.P 72 (.pointer (some ⟨b, o, none⟩)) 2 = some (.pointer (some ⟨b, o + 11, none⟩)) from by intros; kernel_rfl) <|
  And.intro (L_len (C := kon) (t := 63) (by kernel_rfl)) <|
  And.intro (L_lenSl (C := kon) (t := 63) (e := 127) (by kernel_rfl)) <|
  And.intro (L_buildSlice (C := kon) (t := 44) (e := 9) (n := 1) (z := (.string ByteArray.empty)) (zs := [.string ByteArray.empty]) (len := 2) (by kernel_rfl) (by kernel_rfl) (by kernel_rfl) (by kernel_rfl) (by kernel_rfl) (by kernel_rfl)) <|
  (show ∀ (s1 : ByteArray) (s2 : ByteArray), litRow 9 1 2 [.string ByteArray.empty] [(0, (.string s1)), (1, (.string s2))] = some (mkRow 9 2 [.string s1, .string s2]) from by intros; kernel_rfl)
theorem typ4 : type_of% (
  And.intro (L_len (C := kon) (t := 44) (by kernel_rfl)) <|
  And.intro (L_lenSl (C := kon) (t := 44) (e := 9) (by kernel_rfl)) <|
  And.intro (L_loadA (C := kon) (t := 54) (n := 4) (by kernel_rfl) (by kernel_rfl)) <|
  And.intro (L_alloc (C := kon) (t := 54) (z := (.agg #[.string ByteArray.empty, .bool false, .bool false, .bool false])) (cs := [.string ByteArray.empty, .bool false, .bool false, .bool false]) (by kernel_rfl) (by kernel_rfl) (by kernel_rfl)) <|
  And.intro (L_store (C := kon) (t := 54) (n := 4) (by kernel_rfl)) <|
  And.intro (L_len (C := kon) (t := 9) (by kernel_rfl)) <|
  And.intro (L_lenStr (C := kon) (t := 9) (by kernel_rfl)) <|
  And.intro (L_index (C := kon) (t := 9) (by kernel_rfl)) <|
  And.intro (L_bin (C := kon) (t := 5) (by kernel_rfl)) <|
  And.intro (L_bin (C := kon) (t := 22) (by kernel_rfl)) <|
  And.intro (show ∀ (x y : Operand) (p i l q : Nat), evBin kon.P .eql 22 x y (.slice (some ⟨p, i, none⟩) l q) (.slice none 0 0) = some (.bool false) from by intros; kernel_rfl) <|
  And.intro (show ∀ (x y : Operand), evBin kon.P .eql 22 x y (.slice none 0 0) (.slice none 0 0) = some (.bool true) from by intros; kernel_rfl) <|
  And.intro (L_buildSlice (C := kon) (t := 22) (e := 54) (n := 4) (z := (.agg #[.string ByteArray.empty, .bool false, .bool false, .bool false])) (zs := [.string ByteArray.empty, .bool false, .bool false, .bool false]) (len := 0) (by kernel_rfl) (by kernel_rfl) (by kernel_rfl) (by kernel_rfl) (by kernel_rfl) (by kernel_rfl)) <|
  And.intro (show litRow 54 4 0 [.string ByteArray.empty, .bool false, .bool false, .bool false] [] = some (mkRow 54 0 []) from by intros; kernel_rfl) <|
  And.intro (L_append (C := kon) (t := 22) (u := 22) (e := 54) (by kernel_rfl)) <|
  And.intro (L_sliceStr (C := kon) (t := 9) (by kernel_rfl)) <|
  And.intro (L_cmp (C := kon) (t := 67) (by kernel_rfl) (op := .eql) rfl) <|
  And.intro (L_cmpE (C := kon) (t := 67) (by kernel_rfl)) <|
  And.intro (show ∀ (x y : Operand) (h : Hp) (p i : Nat), cmpV kon.P .eql 67 x y h (.pointer (some ⟨p, i, none⟩)) (.pointer (none)) = some (.bool false) from by intros; kernel_rfl) <|
  And.intro (show ∀ (x y : Operand) (h : Hp) (p i : Nat), cmpV kon.P .eql 67 x y h (.pointer (none)) (.pointer (some ⟨p, i, none⟩)) = some (.bool false) from by intros; kernel_rfl) <|
  And.intro (show ∀ (x y : Operand) (h : Hp), cmpV kon.P .eql 67 x y h (.pointer (none)) (.pointer (none)) = some (.bool true) from by intros; kernel_rfl) <|
  And.intro (show ∀ (b o : Nat), evFieldAddr kon.P 72 (.pointer (some ⟨b, o, none⟩)) 0 = some (.pointer (some ⟨b, o + 0, none⟩)) from by intros; kernel_rfl) <|
  And.intro (L_store (C := kon) (t := 22) (n := 1) (by kernel_rfl)) <|
  And.intro (L_store (C := kon) (t := 9) (n := 1) (by kernel_rfl)) <|
  And.intro (L_sliceSl (C := kon) (t := 44) (e := 9) (n := 1) (by kernel_rfl) (by kernel_rfl)) <|
  And.intro (L_convInt (C := kon) (s := 5) (t := 21) (k := .i32) (by kernel_rfl) (by kernel_rfl)) <|
  And.intro (show ∀ (n : Int), prunS kon.P (convert 5 21 (.int .u8 n)) = some (.int .i32 (IntKind.i32.wrap n)) from by intros; kernel_rfl) <|
  And.intro (L_indexArr (C := kon) (t := 104) (m := 256) (e := 5) (n := 1) (by kernel_rfl) (by kernel_rfl)) <|
  And.intro (L_bin (C := kon) (t := 21) (by kernel_rfl)) <|
  And.intro (L_indexArr (C := kon) (t := 107) (m := 16) (e := 106) (n := 2) (by kernel_rfl) (by kernel_rfl)) <|
  And.intro (L_loadA (C := kon) (t := 106) (n := 2) (by kernel_rfl) (by kernel_rfl)) <|
  And.intro (L_alloc (C := kon) (t := 106) (z := (.agg #[.int .u8 0, .int .u8 0])) (cs := [.int .u8 0, .int .u8 0]) (by kernel_rfl) (by kernel_rfl) (by kernel_rfl)) <|
  And.intro (L_store (C := kon) (t := 106) (n := 2) (by kernel_rfl)) <|
  And.intro (show ∀ (b o : Nat), evFieldAddr kon.P 106 (.pointer (some ⟨b, o, none⟩)) 0 = some (.pointer (some ⟨b, o + 0, none⟩)) from by intros; kernel_rfl) <|
  And.intro (show ∀ (b o : Nat), evFieldAddr kon.P 106 (.pointer (some ⟨b, o, none⟩)) 1 = some (.pointer (some ⟨b, o + 1, none⟩)) from by intros; kernel_rfl) <|
  And.intro (L_bin (C := kon) (t := 108) (by kernel_rfl)) <|
  And.intro (L_convInt (C := kon) (s := 5) (t := 108) (k := .u32) (by kernel_rfl) (by kernel_rfl)) <|
  (show ∀ (n : Int), prunS kon.P (convert 5 108 (.int .u8 n)) = some (.int .u32 (IntKind.u32.wrap n)) from by intros; kernel_rfl)) :=
  And.intro (L_len (C := kon) (t := 44) (by kernel_rfl)) <|
  And.intro (L_lenSl (C := kon) (t := 44) (e := 9) (by kernel_rfl)) <|
  And.intro (L_loadA (C := kon) (t := 54) (n := 4) (by kernel_rfl) (by kernel_rfl)) <|
  And.intro (L_alloc (C := kon) (t := 54) (z := (.agg #[.string ByteArray.empty, .bool false, .bool false, .bool false])) (cs := [.string ByteArray.empty, .bool false, .bool false, .bool false]) (by kernel_rfl) (by kernel_rfl) (by kernel_rfl)) <|
  And.intro (L_store (C := kon) (t := 54) (n := 4) (by kernel_rfl)) <|
  And.intro (L_len (C := kon) (t := 9) (by kernel_rfl)) <|
  And.intro (L_lenStr (C := kon) (t := 9) (by kernel_rfl)) <|
  And.intro (L_index (C := kon) (t := 9) (by kernel_rfl)) <|
  And.intro (L_bin (C := kon) (t := 5) (by kernel_rfl)) <|
  And.intro (L_bin (C := kon) (t := 22) (by kernel_rfl)) <|
  And.intro (show ∀ (x y : Operand) (p i l q : Nat), evBin kon.P .eql 22 x y (.slice (some ⟨p, i, none⟩) l q) (.slice none 0 0) = some (.bool false) from by intros; kernel_rfl) <|
  And.intro (show ∀ (x y : Operand), evBin kon.P .eql 22 x y (.slice none 0 0) (.slice none 0 0) = some (.bool true) from by intros; kernel_rfl) <|
  And.intro (L_buildSlice (C := kon) (t := 22) (e := 54) (n := 4) (z := (.agg #[.string ByteArray.empty, .bool false, .bool false, .bool false])) (zs := [.string ByteArray.empty, .bool false, .bool false, .bool false]) (len := 0) (by kernel_rfl) (by kernel_rfl) (by kernel_rfl) (by kernel_rfl) (by kernel_rfl) (by kernel_rfl)) <|
  And.intro (show litRow 54 4 0 [.string ByteArray.empty, .bool false, .bool false, .bool false] [] = some (mkRow 54 0 []) from by intros; kernel_rfl) <|
  And.intro (L_append (C := kon) (t := 22) (u := 22) (e := 54) (by kernel_rfl)) <|
  And.intro (L_sliceStr (C := kon) (t := 9) (by kernel_rfl)) <|
  And.intro (L_cmp (C := kon) (t := 67) (by kernel_rfl) (op := .eql) rfl) <|
  And.intro (L_cmpE (C := kon) (t := 67) (by kernel_rfl)) <|
  And.intro (show ∀ (x y : Operand) (h : Hp) (p i : Nat), cmpV kon.P .eql 67 x y h (.pointer (some ⟨p, i, none⟩)) (.pointer (none)) = some (.bool false) from by intros; kernel_rfl) <|
  And.intro (show ∀ (x y : Operand) (h : Hp) (p i : Nat), cmpV kon.P .eql 67 x y h (.pointer (none)) (.pointer (some ⟨p, i, none⟩)) = some (.bool false) from by intros; kernel_rfl) <|
  And.intro (show ∀ (x y : Operand) (h : Hp), cmpV kon.P .eql 67 x y h (.pointer (none)) (.pointer (none)) = some (.bool true) from by intros; kernel_rfl) <|
  And.intro (show ∀ (b o : Nat), evFieldAddr kon.P 72 (.pointer (some ⟨b, o, none⟩)) 0 = some (.pointer (some ⟨b, o + 0, none⟩)) from by intros; kernel_rfl) <|
  And.intro (L_store (C := kon) (t := 22) (n := 1) (by kernel_rfl)) <|
  And.intro (L_store (C := kon) (t := 9) (n := 1) (by kernel_rfl)) <|
  And.intro (L_sliceSl (C := kon) (t := 44) (e := 9) (n := 1) (by kernel_rfl) (by kernel_rfl)) <|
  And.intro (L_convInt (C := kon) (s := 5) (t := 21) (k := .i32) (by kernel_rfl) (by kernel_rfl)) <|
  And.intro (show ∀ (n : Int), prunS kon.P (convert 5 21 (.int .u8 n)) = some (.int .i32 (IntKind.i32.wrap n)) from by intros; kernel_rfl) <|
  And.intro (L_indexArr (C := kon) (t := 104) (m := 256) (e := 5) (n := 1) (by kernel_rfl) (by kernel_rfl)) <|
  And.intro (L_bin (C := kon) (t := 21) (by kernel_rfl)) <|
  And.intro (L_indexArr (C := kon) (t := 107) (m := 16) (e := 106) (n := 2) (by kernel_rfl) (by kernel_rfl)) <|
  And.intro (L_loadA (C := kon) (t := 106) (n := 2) (by kernel_rfl) (by kernel_rfl)) <|
  And.intro (L_alloc (C := kon) (t := 106) (z := (.agg #[.int .u8 0, .int .u8 0])) (cs := [.int .u8 0, .int .u8 0]) (by kernel_rfl) (by kernel_rfl) (by kernel_rfl)) <|
  And.intro (L_store (C := kon) (t := 106) (n := 2) (by kernel_rfl)) <|
  And.intro (show ∀ (b o : Nat), evFieldAddr kon.P 106 (.pointer (some ⟨b, o, none⟩)) 0 = some (.pointer (some ⟨b, o + 0, none⟩)) from by intros; kernel_rfl) <|
  And.intro (show ∀ (b o : Nat), evFieldAddr kon.P 106 (.pointer (some ⟨b, o, none⟩)) 1 = some (.pointer (some ⟨b, o + 1, none⟩)) from by intros; kernel_rfl) <|
  And.intro (L_bin (C := kon) (t := 108) (by kernel_rfl)) <|
  And.intro (L_convInt (C := kon) (s := 5) (t := 108) (k := .u32) (by kernel_rfl) (by kernel_rfl)) <|
  (show ∀ (n : Int), prunS kon.P (convert 5 108 (.int .u8 n)) = some (.int .u32 (IntKind.u32.wrap n)) from by intros; kernel_rfl)
theorem typs : type_of% typ1 ∧ type_of% typ2 ∧ type_of% typ3 ∧ type_of% typ4 :=
  ⟨typ1, typ2, typ3, typ4⟩
end Go.Proofs.YtojcfpgapfceiaaDoor
namespace Go.Proofs.YtojcfpgapfceiaaDoor
open Go Go.Ev Go.Con
set_option linter.unusedSimpArgs false
set_option linter.unusedVariables false
set_option maxRecDepth 100000
def strs (l : List ByteArray) : List Value := l.map Value.string
abbrev StrSl (h : Hp) (v : Value) (l : List ByteArray) : Prop := SlAt h 1 v (strs l)
theorem wrap64 {x : Int} (h1 : -9223372036854775808 ≤ x) (h2 : x ≤ 9223372036854775807) : IntKind.i64.wrap x = x := by
  simp [IntKind.wrap, IntKind.signed, IntKind.bits]; omega
theorem StrSl.len {h : Hp} {v : Value} {l : List ByteArray} (s : StrSl h v l) : evLen kon.P 44 v = some (.int .i64 l.length) := by
  rcases s with ⟨rfl, hl⟩ | ⟨b, o, k, c, all, rfl, h2, h3, h4, h5, h6⟩
  · have : l = [] := by simpa [strs] using hl
    subst this
    exact evLen_slice (e := 9) (by kernel_rfl)
  · have : l.length = k := by simpa [strs] using h5
    subst this
    exact evLen_slice (e := 9) (by kernel_rfl)
theorem StrSl.at {h : Hp} {v : Value} {l : List ByteArray} (s : StrSl h v l) {i : Nat} {x : ByteArray} (hi : l[i]? = some x) : ∃ p, evIndexAddr kon.P 44 v (.int .i64 i) = some p ∧ evLoad kon.P 9 p h = some (.string x) := by
  have hlt : i < l.length := (List.getElem?_eq_some_iff.1 hi).1
  rcases s with ⟨rfl, hl⟩ | ⟨b, o, k, c, all, rfl, h2, h3, h4, h5, h6⟩
  · have : l = [] := by simpa [strs] using hl
    subst this; simp at hlt
  · have hk : l.length = k := by simpa [strs] using h5
    subst hk
    refine ⟨_, L_indexAddr (C := kon) (t := 44) (e := 9) (n := 1) (by kernel_rfl) (by kernel_rfl) b o l.length c .i64 i (by omega) (by omega), ?_⟩
    rw [L_loadC (C := kon) (t := 9) (by kernel_rfl), h4]
    simp only [Option.bind_some, cellAt, Int.toNat_natCast, Nat.mul_one]
    have : (strs l)[i]? = some (.string x) := by simp [strs, hi]
    rw [← h6, List.getElem?_take, if_pos (by omega), List.getElem?_drop] at this
    exact this
theorem byteAt_get {s : ByteArray} {i : Nat} (h : i < s.size) : s.data.toList[i]? = some (byteAt s i) := by
  unfold byteAt
  have : i < s.data.toList.length := by rw [Array.length_toList]; exact h
  rw [List.getD_eq_getElem?_getD, List.getElem?_eq_getElem this]; rfl
theorem plainB_false {s : ByteArray} {m i : Nat} (h : i < s.size) (hs : signB (byteAt s i) = false) : plainB s m = false := by
  unfold plainB
  have : s.data.toList.all signB = false := by
    rw [Bool.eq_false_iff]; intro hall
    rw [List.all_eq_true] at hall
    have := hall _ (List.mem_of_getElem? (byteAt_get h))
    rw [hs] at this; cases this
  rw [this, Bool.and_false]
theorem ix62 : evIndex kon.P 9 (.string ⟨#[62]⟩) (.int .i64 0) = some (.int .u8 62) := by kernel_rfl
theorem ixAt {s : ByteArray} {i : Nat} (h : i < s.size) : evIndex kon.P 9 (.string s) (.int .i64 i) = some (.int .u8 ((byteAt s i).toNat : Int)) := by
  have := L_index (C := kon) (t := 9) (by kernel_rfl) s .i64 i (by omega) (by omega)
  simpa using this
theorem signs_spec (s : ByteArray) (m : Nat) (mi : Int) (he : mi = (m : Int)) (hm : m ≤ 1000) (h : Hp) : Meets kon 35 [.string s, .int .i64 mi] h fun v h' => v = .bool (plainB s m) ∧ h' = h := by
  subst he
  refine Meets.mk rfl (by kernel_rfl) Tryd.func35 rfl (congrArg Array.toList Tryd.results35) ?_
  rcases Bool.eq_false_or_eq_true (decide ((s.size : Int) < 1)) with e1 | e1
  · simp only [evr, nextP_norm, evd, evq, beq_self_eq_true, cond_true, cond_false, reduceIte, Nat.reduceEqDiff, Nat.reduceAdd, Int.reduceBNe, Int.reduceBEq, Int.reduceLT, Int.reduceLE, Int.reduceEq, typs, e1]
    have : ¬ 1 ≤ s.size := by simp at e1; omega
    simp [plainB, this]
  rcases Bool.eq_false_or_eq_true (decide ((m : Int) < s.size)) with e2 | e2
  · simp only [evr, nextP_norm, evd, evq, beq_self_eq_true, cond_true, cond_false, reduceIte, Nat.reduceEqDiff, Nat.reduceAdd, Int.reduceBNe, Int.reduceBEq, Int.reduceLT, Int.reduceLE, Int.reduceEq, typs, e1, e2]
    have : ¬ s.size ≤ m := by simp at e2; omega
    simp [plainB, this]
  simp only [evr, nextP_norm, evd, evq, beq_self_eq_true, cond_true, cond_false, reduceIte, Nat.reduceEqDiff, Nat.reduceAdd, Int.reduceBNe, Int.reduceBEq, Int.reduceLT, Int.reduceLE, Int.reduceEq, typs, e1, e2]
  have h1 : 1 ≤ s.size := by simp at e1; omega
  have h2 : s.size ≤ m := by simp at e2; omega
  refine Wp_loop (fun k fr h' => h' = h ∧ ∃ i : Nat, k = s.size - i ∧ i ≤ s.size ∧ fr.get 0 = some (.string s) ∧ fr.get 16 = some (.int .i64 s.size) ∧ fr.get 17 = some (.int .i64 i) ∧ (s.data.toList.take i).all signB = true) s.size ⟨rfl, 0, rfl, Nat.zero_le _, ?_, ?_, ?_, rfl⟩ ?_
  · simp only [evr, nextP_norm, evd, evq, beq_self_eq_true, cond_true, cond_false, reduceIte, Nat.reduceEqDiff, Nat.reduceAdd, Int.reduceBNe, Int.reduceBEq, Int.reduceLT, Int.reduceLE, Int.reduceEq, typs]
  · simp only [evr, nextP_norm, evd, evq, beq_self_eq_true, cond_true, cond_false, reduceIte, Nat.reduceEqDiff, Nat.reduceAdd, Int.reduceBNe, Int.reduceBEq, Int.reduceLT, Int.reduceLE, Int.reduceEq, typs]
  · simp only [evr, nextP_norm, evd, evq, beq_self_eq_true, cond_true, cond_false, reduceIte, Nat.reduceEqDiff, Nat.reduceAdd, Int.reduceBNe, Int.reduceBEq, Int.reduceLT, Int.reduceLE, Int.reduceEq, typs]
    rfl
  rintro k fr h' ⟨rfl, i, rfl, hi, g0, g16, g17, hp⟩
  by_cases h3 : i < s.size
  · have e3 : decide ((i : Int) < s.size) = true := by simp; omega
    have hx := ixAt h3
    simp only [evr, nextP_norm, evd, evq, beq_self_eq_true, cond_true, cond_false, reduceIte, Nat.reduceEqDiff, Nat.reduceAdd, Int.reduceBNe, Int.reduceBEq, Int.reduceLT, Int.reduceLE, Int.reduceEq, typs, g0, g16, g17, e3]
    refine Eq.mpr (Wp_drawOrd (KR.mk (by kernel_rfl))) ?_
    cases hb : signB (byteAt s i) with
    | false =>
      have hf := plainB_false (m := m) h3 hb
      rcases Bool.eq_false_or_eq_true (decide (((byteAt s i).toNat : Int) < 33)) with e4 | e4
      · simp only [evr, nextP_norm, evd, evq, beq_self_eq_true, cond_true, cond_false, reduceIte, Nat.reduceEqDiff, Nat.reduceAdd, Int.reduceBNe, Int.reduceBEq, Int.reduceLT, Int.reduceLE, Int.reduceEq, typs, g0, g16, g17, hx, ix62, e4]
        rw [hf]
      rcases Bool.eq_false_or_eq_true (decide ((126 : Int) < ((byteAt s i).toNat : Int))) with e5 | e5
      · simp only [evr, nextP_norm, evd, evq, beq_self_eq_true, cond_true, cond_false, reduceIte, Nat.reduceEqDiff, Nat.reduceAdd, Int.reduceBNe, Int.reduceBEq, Int.reduceLT, Int.reduceLE, Int.reduceEq, typs, g0, g16, g17, hx, ix62, e4, e5]
        rw [hf]
      have e6 : (((byteAt s i).toNat : Int) == 62) = true := by
        simp [signB] at hb e4 e5 ⊢; omega
      simp only [evr, nextP_norm, evd, evq, beq_self_eq_true, cond_true, cond_false, reduceIte, Nat.reduceEqDiff, Nat.reduceAdd, Int.reduceBNe, Int.reduceBEq, Int.reduceLT, Int.reduceLE, Int.reduceEq, typs, g0, g16, g17, hx, ix62, e4, e5, e6]
      rw [hf]
    | true =>
      have ⟨e4, e5, e6⟩ : decide (((byteAt s i).toNat : Int) < 33) = false ∧ decide ((126 : Int) < ((byteAt s i).toNat : Int)) = false ∧ (((byteAt s i).toNat : Int) == 62) = false := by
        simp [signB] at hb ⊢; omega
      simp only [evr, nextP_norm, evd, evq, beq_self_eq_true, cond_true, cond_false, reduceIte, Nat.reduceEqDiff, Nat.reduceAdd, Int.reduceBNe, Int.reduceBEq, Int.reduceLT, Int.reduceLE, Int.reduceEq, typs, g0, g16, g17, hx, ix62, e4, e5, e6, wrap64 (x := (i : Int) + 1) (by omega) (by omega)]
      refine ⟨s.size - (i + 1), by omega, i + 1, rfl, by omega, rfl, ?_⟩
      rw [List.take_add_one, byteAt_get h3, List.all_append, hp]
      simp [hb]
  · have e3 : decide ((i : Int) < s.size) = false := by simp; omega
    simp only [evr, nextP_norm, evd, evq, beq_self_eq_true, cond_true, cond_false, reduceIte, Nat.reduceEqDiff, Nat.reduceAdd, Int.reduceBNe, Int.reduceBEq, Int.reduceLT, Int.reduceLE, Int.reduceEq, typs, g0, g16, g17, e3]
    have : i = s.data.toList.length := by rw [Array.length_toList]; exact (show i = s.size by omega)
    rw [List.take_of_length_le (by omega)] at hp
    simp [plainB, h1, h2, hp]
theorem may_spec (s : ByteArray) (h : Hp) : Meets kon 21 [.string s] h fun v h' => v = .bool (mayN s) ∧ h' = h := by
  refine Meets.mk rfl (by kernel_rfl) Tryd.func21 rfl (congrArg Array.toList Tryd.results21) ?_
  simp only [evr, nextP_norm, evd, evq, beq_self_eq_true, cond_true, cond_false, reduceIte, Nat.reduceEqDiff, Nat.reduceAdd, Int.reduceBNe, Int.reduceBEq, Int.reduceLT, Int.reduceLE, Int.reduceEq, typs, (signs_spec s 32 32 rfl (by omega) h).call]
theorem user_spec (s : ByteArray) (h : Hp) : Meets kon 49 [.string s] h fun v h' => v = .bool (mayU s) ∧ h' = h := by
  refine Meets.mk rfl (by kernel_rfl) Tryd.func49 rfl (congrArg Array.toList Tryd.results49) ?_
  simp only [evr, nextP_norm, evd, evq, beq_self_eq_true, cond_true, cond_false, reduceIte, Nat.reduceEqDiff, Nat.reduceAdd, Int.reduceBNe, Int.reduceBEq, Int.reduceLT, Int.reduceLE, Int.reduceEq, typs, (signs_spec s 16 16 rfl (by omega) h).call]
theorem plain_spec (s : ByteArray) (m : Nat) (mi : Int) (he : mi = (m : Int)) (hm : m ≤ 1000) (h : Hp) : Meets kon 48 [.string s, .int .i64 mi] h fun v h' => v = .bool (plainB s m) ∧ h' = h := by
  subst he
  refine Meets.mk rfl (by kernel_rfl) Tryd.func48 rfl (congrArg Array.toList Tryd.results48) ?_
  rcases Bool.eq_false_or_eq_true (decide ((s.size : Int) < 1)) with e1 | e1
  · simp only [evr, nextP_norm, evd, evq, beq_self_eq_true, cond_true, cond_false, reduceIte, Nat.reduceEqDiff, Nat.reduceAdd, Int.reduceBNe, Int.reduceBEq, Int.reduceLT, Int.reduceLE, Int.reduceEq, typs, e1]
    have : ¬ 1 ≤ s.size := by simp at e1; omega
    simp [plainB, this]
  rcases Bool.eq_false_or_eq_true (decide ((m : Int) < s.size)) with e2 | e2
  · simp only [evr, nextP_norm, evd, evq, beq_self_eq_true, cond_true, cond_false, reduceIte, Nat.reduceEqDiff, Nat.reduceAdd, Int.reduceBNe, Int.reduceBEq, Int.reduceLT, Int.reduceLE, Int.reduceEq, typs, e1, e2]
    have : ¬ s.size ≤ m := by simp at e2; omega
    simp [plainB, this]
  simp only [evr, nextP_norm, evd, evq, beq_self_eq_true, cond_true, cond_false, reduceIte, Nat.reduceEqDiff, Nat.reduceAdd, Int.reduceBNe, Int.reduceBEq, Int.reduceLT, Int.reduceLE, Int.reduceEq, typs, e1, e2]
  have h1 : 1 ≤ s.size := by simp at e1; omega
  have h2 : s.size ≤ m := by simp at e2; omega
  refine Wp_loop (fun k fr h' => h' = h ∧ ∃ i : Nat, k = s.size - i ∧ i ≤ s.size ∧ fr.get 0 = some (.string s) ∧ fr.get 5 = some (.int .i64 i) ∧ (s.data.toList.take i).all signB = true) s.size ⟨rfl, 0, rfl, Nat.zero_le _, ?_, ?_, rfl⟩ ?_
  · simp only [evr, nextP_norm, evd, evq, beq_self_eq_true, cond_true, cond_false, reduceIte, Nat.reduceEqDiff, Nat.reduceAdd, Int.reduceBNe, Int.reduceBEq, Int.reduceLT, Int.reduceLE, Int.reduceEq, typs]
  · simp only [evr, nextP_norm, evd, evq, beq_self_eq_true, cond_true, cond_false, reduceIte, Nat.reduceEqDiff, Nat.reduceAdd, Int.reduceBNe, Int.reduceBEq, Int.reduceLT, Int.reduceLE, Int.reduceEq, typs]
    rfl
  rintro k fr h' ⟨rfl, i, rfl, hi, g0, g5, hp⟩
  by_cases h3 : i < s.size
  · have e3 : decide ((i : Int) < s.size) = true := by simp; omega
    have hx := ixAt h3
    cases hb : signB (byteAt s i) with
    | false =>
      have hf := plainB_false (m := m) h3 hb
      rcases Bool.eq_false_or_eq_true (decide (((byteAt s i).toNat : Int) < 33)) with e4 | e4
      · simp only [evr, nextP_norm, evd, evq, beq_self_eq_true, cond_true, cond_false, reduceIte, Nat.reduceEqDiff, Nat.reduceAdd, Int.reduceBNe, Int.reduceBEq, Int.reduceLT, Int.reduceLE, Int.reduceEq, typs, g0, g5, e3, hx, e4]
        rw [hf]
      rcases Bool.eq_false_or_eq_true (decide ((126 : Int) < ((byteAt s i).toNat : Int))) with e5 | e5
      · simp only [evr, nextP_norm, evd, evq, beq_self_eq_true, cond_true, cond_false, reduceIte, Nat.reduceEqDiff, Nat.reduceAdd, Int.reduceBNe, Int.reduceBEq, Int.reduceLT, Int.reduceLE, Int.reduceEq, typs, g0, g5, e3, hx, e4, e5]
        rw [hf]
      have e6 : (((byteAt s i).toNat : Int) == 62) = true := by
        simp [signB] at hb e4 e5 ⊢; omega
      simp only [evr, nextP_norm, evd, evq, beq_self_eq_true, cond_true, cond_false, reduceIte, Nat.reduceEqDiff, Nat.reduceAdd, Int.reduceBNe, Int.reduceBEq, Int.reduceLT, Int.reduceLE, Int.reduceEq, typs, g0, g5, e3, hx, e4, e5, e6]
      rw [hf]
    | true =>
      have ⟨e4, e5, e6⟩ : decide (((byteAt s i).toNat : Int) < 33) = false ∧ decide ((126 : Int) < ((byteAt s i).toNat : Int)) = false ∧ (((byteAt s i).toNat : Int) == 62) = false := by
        simp [signB] at hb ⊢; omega
      simp only [evr, nextP_norm, evd, evq, beq_self_eq_true, cond_true, cond_false, reduceIte, Nat.reduceEqDiff, Nat.reduceAdd, Int.reduceBNe, Int.reduceBEq, Int.reduceLT, Int.reduceLE, Int.reduceEq, typs, g0, g5, e3, hx, e4, e5, e6, wrap64 (x := (i : Int) + 1) (by omega) (by omega)]
      refine ⟨s.size - (i + 1), by omega, i + 1, rfl, by omega, rfl, ?_⟩
      rw [List.take_add_one, byteAt_get h3, List.all_append, hp]
      simp [hb]
  · have e3 : decide ((i : Int) < s.size) = false := by simp; omega
    simp only [evr, nextP_norm, evd, evq, beq_self_eq_true, cond_true, cond_false, reduceIte, Nat.reduceEqDiff, Nat.reduceAdd, Int.reduceBNe, Int.reduceBEq, Int.reduceLT, Int.reduceLE, Int.reduceEq, typs, g0, g5, e3]
    have : i = s.data.toList.length := by rw [Array.length_toList]; exact (show i = s.size by omega)
    rw [List.take_of_length_le (by omega)] at hp
    simp [plainB, h1, h2, hp]
end Go.Proofs.YtojcfpgapfceiaaDoor
namespace Go.Proofs.YtojcfpgapfceiaaDoor
open Go Go.Ev Go.Con
set_option linter.unusedSimpArgs false
set_option linter.unusedVariables false
set_option maxRecDepth 100000
theorem stroke_size : (ByteArray.mk #[62]).size = 1 := rfl
theorem head_of {s : ByteArray} (h : 1 ≤ s.size) : ∃ c l, s.data.toList = c :: l ∧ (s.extract 1 s.size).data.toList = l ∧ (s.extract 0 1).data.toList = [c] := by
  have hl : 1 ≤ s.data.toList.length := by rw [Array.length_toList]; exact h
  cases hs : s.data.toList with
  | nil => rw [hs] at hl; simp at hl
  | cons c l =>
    have e1 : (s.extract 1 s.size).data.toList = l := by
      rw [ByteArray.data_extract, Array.toList_extract, List.extract_eq_take_drop, hs]
      have : s.size = (c :: l).length := by rw [← hs, Array.length_toList]; rfl
      rw [this]; simp
    have e2 : (s.extract 0 1).data.toList = [c] := by
      rw [ByteArray.data_extract, Array.toList_extract, List.extract_eq_take_drop, hs]; simp
    exact ⟨c, l, rfl, e1, e2⟩
theorem prefixS_spec (s : ByteArray) (h : Hp) : Meets kon 51 [.string s, .string ⟨#[62]⟩] h fun v h' => v = .bool (s.data.toList.head? == some 62) ∧ h' = h := by
  refine Meets.mk rfl (by kernel_rfl) Tryd.func51 rfl (congrArg Array.toList Tryd.results51) ?_
  rcases Bool.eq_false_or_eq_true (decide ((1 : Int) ≤ s.size)) with e1 | e1
  · have h1 : 1 ≤ s.size := by simp at e1; omega
    obtain ⟨c, l, hc, _, h2⟩ := head_of h1
    have hsl := (L_sliceStr (C := kon) (t := 9) (by kernel_rfl)).2.2 s .i64 1 (by omega) (by omega)
    have he : decide (s.extract 0 (Int.toNat 1) = (ByteArray.mk #[62])) = (s.data.toList.head? == some 62) := by
      rw [hc, Bool.eq_iff_iff]
      simp only [decide_eq_true_eq, List.head?_cons, beq_iff_eq, Option.some.injEq]
      constructor
      · intro e
        have : (s.extract 0 1).data.toList = [62] := by rw [show s.extract 0 1 = (ByteArray.mk #[62]) from e]
        rw [h2] at this; simpa using this
      · rintro rfl
        exact ba_ext h2
    simp only [evr, nextP_norm, evd, evq, beq_self_eq_true, cond_true, cond_false, reduceIte, Nat.reduceEqDiff, Nat.reduceAdd, Int.reduceBNe, Int.reduceBEq, Int.reduceLT, Int.reduceLE, Int.reduceEq, typs, stroke_size, Int.natCast_one, e1, hsl, he]
  · simp only [evr, nextP_norm, evd, evq, beq_self_eq_true, cond_true, cond_false, reduceIte, Nat.reduceEqDiff, Nat.reduceAdd, Int.reduceBNe, Int.reduceBEq, Int.reduceLT, Int.reduceLE, Int.reduceEq, typs, stroke_size, Int.natCast_one, e1]
    have : s.data.toList = [] := List.length_eq_zero_iff.1 (by rw [Array.length_toList]; simp at e1; show s.size = 0; omega)
    rw [this]; rfl
theorem prefix_spec (s : ByteArray) (h : Hp) : Meets kon 46 [.string s, .string ⟨#[62]⟩] h fun v h' => v = .bool (s.data.toList.head? == some 62) ∧ h' = h := by
  refine Meets.mk rfl (by kernel_rfl) Tryd.func46 rfl (congrArg Array.toList Tryd.results46) ?_
  simp only [evr, nextP_norm, evd, evq, beq_self_eq_true, cond_true, cond_false, reduceIte, Nat.reduceEqDiff, Nat.reduceAdd, Int.reduceBNe, Int.reduceBEq, Int.reduceLT, Int.reduceLE, Int.reduceEq, typs, (prefixS_spec s h).call]
def splitHp (h : Hp) (s : ByteArray) : Hp := h.push (.row (strs ((cut s.data.toList).map ofL)) 9 (.rw 0 []))
def splitSl (h : Hp) (s : ByteArray) : Value := .slice (some ⟨h.next, 0, none⟩) (cut s.data.toList).length (2 * (cut s.data.toList).length)
theorem splitLib_spec (s : ByteArray) (h : Hp) (hs : s.size < 4294967281) : Meets kon 47 [.string s, .string ⟨#[62]⟩] h fun v h' => v = splitSl h s ∧ h' = splitHp h s := by
  have hb := splitB_cut s
  have hl : Lib.countB s (ofL [62]) + 1 = (cut s.data.toList).length := by
    have hk := splitK_cut (Lib.count s.data.toList [62]) s.data.toList rfl
    have key : ∀ (n : Nat) (l : List UInt8), Lib.count l [62] = n → (Lib.splitK [62] 0 n l).length = n + 1 := by
      intro n
      induction n with
      | zero => intro l _; rfl
      | succ n ih =>
        intro l hc
        have hm : ¬ Lib.index l [62] = -1 := fun e => by rw [Lib.count_miss e] at hc; omega
        have hg := Lib.index_ge l [62]
        obtain ⟨i, hi⟩ : ∃ i : Nat, Lib.index l [62] = i := ⟨(Lib.index l [62]).toNat, by omega⟩
        rw [Lib.count_hit (by simp) hi] at hc
        have e : (Lib.index l [62]).toNat = i := by omega
        unfold Lib.splitK
        rw [if_neg (fun e => hm (beq_iff_eq.1 e)), e]
        have h5 : ([62] : List UInt8).length = 1 := rfl
        rw [h5] at hc
        exact congrArg Nat.succ (ih _ (by rw [h5]; omega))
    have := key _ s.data.toList rfl
    rw [hk] at this
    exact this.symm
  refine ⟨_, _, Ret.sum (s := sumSplit 9) rfl (v := splitSl h s) (h' := splitHp h s) ?_, rfl, rfl⟩
  show (bif decide (s.size < 4294967281) && decide (1 ≤ (ofL [62]).size) then some (Value.slice (some ⟨h.next, 0, none⟩) (Lib.countB s (ofL [62]) + 1) (2 * (Lib.countB s (ofL [62]) + 1)), h.push (.row ((Lib.splitB (ofL [62]) 0 (Lib.countB s (ofL [62])) s).map Value.string) 9 (.rw 0 []))) else none) = _
  rw [decide_eq_true hs, hb, hl]
  rfl
theorem splitHp_keep (h : Hp) (s : ByteArray) : Keep h (splitHp h s) := Keep.push _ _
theorem splitSl_grown (h : Hp) (s : ByteArray) : Grown h.next (splitHp h s) (splitSl h s) 9 1 (strs ((cut s.data.toList).map ofL)) := by
  have h1 : 1 ≤ (cut s.data.toList).length := by have := cut_ne s.data.toList; cases h : cut s.data.toList <;> simp_all
  exact .inr ⟨h.next, _, 0, [], 0, rfl, by omega, by simp [strs], h1, Nat.lt_succ_self _, Hp.get_push_self _ _, by simp [strs]; exact h1, Nat.le_refl _, by simp⟩
def SplitP (s : ByteArray) (h : Hp) (v : Value) (h' : Hp) : Prop := Keep h h' ∧ match split s with
  | none => v = .tuple #[.slice none 0 0, .int .i64 3]
  | some ps => ∃ sl, v = .tuple #[sl, .int .i64 0] ∧ Grown h.next h' sl 9 1 (strs ps)
theorem SplitP.no {s : ByteArray} {h h' : Hp} (k : Keep h h') (e : split s = none) : SplitP s h (.tuple #[.slice none 0 0, .int .i64 3]) h' := ⟨k, by rw [e]⟩
theorem SplitP.yes {s : ByteArray} {h h' : Hp} {ps : List ByteArray} {sl : Value} (k : Keep h h') (e : split s = some ps) (g : Grown h.next h' sl 9 1 (strs ps)) : SplitP s h (.tuple #[sl, .int .i64 0]) h' := ⟨k, by rw [e]; exact ⟨sl, rfl, g⟩⟩
theorem split_long {s : ByteArray} (h : 168 < s.size) : split s = none := by
  unfold split
  split
  · rfl
  · rename_i c l hs
    have : s.size = l.length + 1 := by rw [size_eq, hs]; rfl
    split
    · split
      · rename_i hl; subst hl; simp at this; omega
      · rfl
    · rfl
theorem split_head {s : ByteArray} (h : (s.data.toList.head? == some 62) = false) : split s = none := by
  unfold split
  split
  · rfl
  · rename_i c l hs
    rw [hs] at h
    simp at h
    rw [if_neg h]
theorem split_at {s : ByteArray} {l : List UInt8} (hs : s.data.toList = 62 :: l) (hl : l ≠ []) (hz : s.size ≤ 168) : split s = if 16 < (cut l).length then none else if ((cut l).map ofL).all mayN then some ((cut l).map ofL) else none := by
  unfold split
  rw [hs]
  simp only [if_true, if_neg hl, if_neg (show ¬ 168 < s.size by omega)]
theorem split_root : split ⟨#[62]⟩ = some [] := rfl
theorem split_spec (s : ByteArray) (h : Hp) : Meets kon 39 [.string s] h (SplitP s h) := by
  refine Meets.mk rfl (by kernel_rfl) Tryd.func39 rfl (congrArg Array.toList Tryd.results39) ?_
  rcases Bool.eq_false_or_eq_true (decide (s = (ByteArray.mk #[62]))) with e1 | e1
  · simp only [evr, nextP_norm, evd, evq, beq_self_eq_true, cond_true, cond_false, reduceIte, Nat.reduceEqDiff, Nat.reduceAdd, Int.reduceBNe, Int.reduceBEq, Int.reduceLT, Int.reduceLE, Int.reduceEq, typs, e1]
    obtain rfl := of_decide_eq_true e1
    exact .yes (Keep.refl _) split_root (.inl ⟨rfl, rfl⟩)
  rcases Bool.eq_false_or_eq_true (decide ((168 : Int) < s.size)) with e2 | e2
  · simp only [evr, nextP_norm, evd, evq, beq_self_eq_true, cond_true, cond_false, reduceIte, Nat.reduceEqDiff, Nat.reduceAdd, Int.reduceBNe, Int.reduceBEq, Int.reduceLT, Int.reduceLE, Int.reduceEq, typs, e1, e2]
    exact .no (Keep.refl _) (split_long (by simp at e2; omega))
  have hz : s.size ≤ 168 := by simp at e2; omega
  rcases Bool.eq_false_or_eq_true (s.data.toList.head? == some 62) with e3 | e3
  · obtain ⟨l, hl⟩ : ∃ l, s.data.toList = 62 :: l := by
      cases hs : s.data.toList with
      | nil => rw [hs] at e3; simp at e3
      | cons c l => rw [hs] at e3; simp at e3; exact ⟨l, by rw [e3]⟩
    have hs1 : 1 ≤ s.size := by rw [size_eq, hl]; simp
    have hl0 : l ≠ [] := by
      rintro rfl
      exact absurd (ba_ext (a := s) (b := ByteArray.mk #[62]) hl) (of_decide_eq_false e1)
    obtain ⟨c, l', hc, h1, _⟩ := head_of hs1
    have hll : l' = l := by rw [hl] at hc; exact (List.cons.inj hc).2.symm
    subst hll
    have hsl := (L_sliceStr (C := kon) (t := 9) (by kernel_rfl)).1 s .i64 1 (by omega) (by omega)
    rw [show Int.toNat 1 = 1 from rfl] at hsl
    generalize hu : s.extract 1 s.size = u at hsl h1
    have hus : u.size < 4294967281 := by
      rw [size_eq, h1]
      have : s.size = l'.length + 1 := by rw [size_eq, hl]; rfl
      omega
    simp only [evr, nextP_norm, evd, evq, beq_self_eq_true, cond_true, cond_false, reduceIte, Nat.reduceEqDiff, Nat.reduceAdd, Int.reduceBNe, Int.reduceBEq, Int.reduceLT, Int.reduceLE, Int.reduceEq, typs, e1, e2, (prefix_spec s h).call, e3, hsl, (splitLib_spec u h hus).call]
    have hlen : evLen kon.P 44 (splitSl h u) = some (.int .i64 ((cut l').length : Nat)) := by rw [← h1]; exact evLen_slice (e := 9) (by kernel_rfl)
    have hk := splitHp_keep h u
    have hg := splitSl_grown h u
    rw [h1] at hg
    have hst : StrSl (splitHp h u) (splitSl h u) ((cut l').map ofL) := hg.slAt
    have hsp := split_at hl hl0 hz
    generalize splitSl h u = sl at *
    generalize splitHp h u = h1 at *
    rcases Bool.eq_false_or_eq_true (decide ((16 : Int) < (cut l').length)) with e4 | e4
    · simp only [evr, nextP_norm, evd, evq, beq_self_eq_true, cond_true, cond_false, reduceIte, Nat.reduceEqDiff, Nat.reduceAdd, Int.reduceBNe, Int.reduceBEq, Int.reduceLT, Int.reduceLE, Int.reduceEq, typs, hlen, e4]
      exact .no hk (by rw [hsp, if_pos (by simp at e4; omega)])
    simp only [evr, nextP_norm, evd, evq, beq_self_eq_true, cond_true, cond_false, reduceIte, Nat.reduceEqDiff, Nat.reduceAdd, Int.reduceBNe, Int.reduceBEq, Int.reduceLT, Int.reduceLE, Int.reduceEq, typs, hlen, e4]
    have h16 : (cut l').length ≤ 16 := by simp at e4; omega
    rw [if_neg (by omega)] at hsp
    refine Wp_loop (fun k fr h' => h' = h1 ∧ ∃ i : Nat, k = (cut l').length - i ∧ i ≤ (cut l').length ∧ fr.get 4 = some sl ∧ fr.get 23 = some sl ∧ fr.get 24 = some (.int .i64 (cut l').length) ∧ fr.get 25 = some (.int .i64 i) ∧
      (((cut l').map ofL).take i).all mayN = true) (cut l').length ⟨rfl, 0, rfl, Nat.zero_le _, ?_, ?_, ?_, ?_, rfl⟩ ?_
    · simp only [evr, nextP_norm, evd, evq, beq_self_eq_true, cond_true, cond_false, reduceIte, Nat.reduceEqDiff, Nat.reduceAdd, Int.reduceBNe, Int.reduceBEq, Int.reduceLT, Int.reduceLE, Int.reduceEq, typs]
    · simp only [evr, nextP_norm, evd, evq, beq_self_eq_true, cond_true, cond_false, reduceIte, Nat.reduceEqDiff, Nat.reduceAdd, Int.reduceBNe, Int.reduceBEq, Int.reduceLT, Int.reduceLE, Int.reduceEq, typs]
    · simp only [evr, nextP_norm, evd, evq, beq_self_eq_true, cond_true, cond_false, reduceIte, Nat.reduceEqDiff, Nat.reduceAdd, Int.reduceBNe, Int.reduceBEq, Int.reduceLT, Int.reduceLE, Int.reduceEq, typs]
    · simp only [evr, nextP_norm, evd, evq, beq_self_eq_true, cond_true, cond_false, reduceIte, Nat.reduceEqDiff, Nat.reduceAdd, Int.reduceBNe, Int.reduceBEq, Int.reduceLT, Int.reduceLE, Int.reduceEq, typs]
      rfl
    rintro k fr h' ⟨rfl, i, rfl, hi, g4, g23, g24, g25, hp⟩
    by_cases h3 : i < (cut l').length
    · have e5 : decide ((i : Int) < (cut l').length) = true := by simp; omega
      obtain ⟨x, hx⟩ : ∃ x, ((cut l').map ofL)[i]? = some x := ⟨_, List.getElem?_eq_getElem (by simpa using h3)⟩
      obtain ⟨p, ha, hld⟩ := hst.at hx
      cases hm : mayN x with
      | false =>
        simp only [evr, nextP_norm, evd, evq, beq_self_eq_true, cond_true, cond_false, reduceIte, Nat.reduceEqDiff, Nat.reduceAdd, Int.reduceBNe, Int.reduceBEq, Int.reduceLT, Int.reduceLE, Int.reduceEq, typs, g4, g23, g24, g25, e5, ha, hld, (may_spec x h').call, hm]
        refine .no hk ?_
        rw [hsp, if_neg]
        intro hall
        rw [List.all_eq_true] at hall
        have := hall x (List.mem_of_getElem? hx)
        rw [hm] at this; cases this
      | true =>
        simp only [evr, nextP_norm, evd, evq, beq_self_eq_true, cond_true, cond_false, reduceIte, Nat.reduceEqDiff, Nat.reduceAdd, Int.reduceBNe, Int.reduceBEq, Int.reduceLT, Int.reduceLE, Int.reduceEq, typs, g4, g23, g24, g25, e5, ha, hld, (may_spec x h').call, hm, wrap64 (x := (i : Int) + 1) (by omega) (by omega)]
        refine ⟨(cut l').length - (i + 1), by omega, i + 1, rfl, by omega, rfl, ?_⟩
        rw [List.take_add_one, hx, List.all_append, hp]
        simp [hm]
    · have e5 : decide ((i : Int) < (cut l').length) = false := by simp; omega
      simp only [evr, nextP_norm, evd, evq, beq_self_eq_true, cond_true, cond_false, reduceIte, Nat.reduceEqDiff, Nat.reduceAdd, Int.reduceBNe, Int.reduceBEq, Int.reduceLT, Int.reduceLE, Int.reduceEq, typs, g4, g23, g24, g25, e5]
      rw [List.take_of_length_le (by simp; omega)] at hp
      exact .yes hk (by rw [hsp, if_pos hp]) hg
  · simp only [evr, nextP_norm, evd, evq, beq_self_eq_true, cond_true, cond_false, reduceIte, Nat.reduceEqDiff, Nat.reduceAdd, Int.reduceBNe, Int.reduceBEq, Int.reduceLT, Int.reduceLE, Int.reduceEq, typs, e1, e2, (prefix_spec s h).call, e3]
    exact .no (Keep.refl _) (split_head e3)
end Go.Proofs.YtojcfpgapfceiaaDoor
namespace Go.Proofs.YtojcfpgapfceiaaDoor
open Go Go.Ev Go.Con
set_option linter.unusedSimpArgs false
set_option linter.unusedVariables false
set_option maxRecDepth 100000
def flV (f : Fl) : Value := .agg #[.bool f.r, .bool f.w, .bool f.e]
def bkV (b : Bk) : Value := .agg #[.int .i64 b.r1, .int .i64 b.r2, .int .i64 b.r3, .int .i64 b.g]
def tmC (t : Tm) : List Value := [.string t.user, .bool t.f.r, .bool t.f.w, .bool t.f.e]
def tmV (t : Tm) : Value := .agg #[.string t.user, .bool t.f.r, .bool t.f.w, .bool t.f.e]
def tms (l : List Tm) : List Value := (l.map tmC).flatten
abbrev TmTy (h : Hp) (F : Nat → Prop) (v : Value) (l : List Tm) : Prop := SlTy h F 54 4 v (tms l)
abbrev TmSl (h : Hp) (v : Value) (l : List Tm) : Prop := SlAt h 4 v (tms l)
theorem tms_len (l : List Tm) : (tms l).length = l.length * 4 := by
  induction l with
  | nil => rfl
  | cons a l ih => simp only [tms, List.map_cons, List.flatten_cons, List.length_append] at ih ⊢; rw [ih]; simp [tmC]; omega
theorem tms_at (l : List Tm) {i : Nat} {x : Tm} (h : l[i]? = some x) : ((tms l).drop (i * 4)).take 4 = tmC x := by
  induction l generalizing i with
  | nil => simp at h
  | cons a l ih =>
    cases i with
    | zero =>
      simp at h; subst h
      simp [tms, tmC]
    | succ i =>
      have := ih (by simpa using h)
      have e : tms (a :: l) = tmC a ++ tms l := by simp [tms]
      rw [e, List.drop_append, show (tmC a).length = 4 from rfl, List.drop_eq_nil_of_le (by simp [tmC]; omega), List.nil_append, show (i + 1) * 4 - 4 = i * 4 by omega]
      exact this
theorem tms_cell (l : List Tm) : (tms l).all isCell = true := by
  rw [List.all_eq_true]; intro x hx
  simp only [tms, List.mem_flatten, List.mem_map] at hx
  obtain ⟨c, ⟨t, _, rfl⟩, hx⟩ := hx
  simp only [tmC, List.mem_cons, List.not_mem_nil, or_false] at hx
  rcases hx with rfl | rfl | rfl | rfl <;> rfl
theorem TmSl.len {h : Hp} {v : Value} {l : List Tm} (s : TmSl h v l) : evLen kon.P 22 v = some (.int .i64 l.length) := by
  rcases s with ⟨rfl, hl⟩ | ⟨b, o, k, c, all, rfl, h2, h3, h4, h5, h6⟩
  · have : (tms l).length = 0 := by rw [hl]; rfl
    rw [tms_len] at this
    have : l = [] := List.length_eq_zero_iff.1 (by omega)
    subst this
    exact evLen_slice (e := 54) (by kernel_rfl)
  · have : l.length = k := by rw [tms_len] at h5; omega
    subst this
    exact evLen_slice (e := 54) (by kernel_rfl)
theorem TmSl.at {h : Hp} {v : Value} {l : List Tm} (s : TmSl h v l) {i : Nat} {x : Tm} (hi : l[i]? = some x) : ∃ b o all, evIndexAddr kon.P 22 v (.int .i64 i) = some (.pointer (some ⟨b, o, none⟩)) ∧ b < h.next ∧
    rowOf h b = some all ∧ o + 4 ≤ all.length ∧ (all.drop o).take 4 = tmC x := by
  have hlt : i < l.length := (List.getElem?_eq_some_iff.1 hi).1
  rcases s with ⟨rfl, hl⟩ | ⟨b, o, k, c, all, rfl, h2, h3, h4, h5, h6⟩
  · have : (tms l).length = 0 := by rw [hl]; rfl
    rw [tms_len] at this; omega
  · have hk : l.length = k := by rw [tms_len] at h5; omega
    subst hk
    have hz : o + l.length * 4 ≤ all.length := by
      have := congrArg List.length h6
      rw [List.length_take, List.length_drop, tms_len] at this; omega
    refine ⟨b, o + i * 4, all, ?_, h3, h4, by omega, ?_⟩
    · have := L_indexAddr (C := kon) (t := 22) (e := 54) (n := 4) (by kernel_rfl) (by kernel_rfl) b o l.length c .i64 i (by omega) (by omega)
      simpa using this
    · rw [← tms_at l hi, ← h6, List.drop_take, List.take_take, List.drop_drop]
      congr 1; omega
theorem TmSl.load {h : Hp} {v : Value} {l : List Tm} (s : TmSl h v l) {i : Nat} {x : Tm} (hi : l[i]? = some x) : ∃ p, evIndexAddr kon.P 22 v (.int .i64 i) = some p ∧ evLoad kon.P 54 p h = some (tmV x) := by
  obtain ⟨b, o, all, h1, _, h2, h3, h4⟩ := s.at hi
  refine ⟨_, h1, ?_⟩
  rw [L_loadA (C := kon) (t := 54) (n := 4) (by kernel_rfl) (by kernel_rfl), h2, Option.bind_some, aggAt_eq h3, h4]; rfl
theorem auser_spec (s : ByteArray) (h : Hp) : Meets kon 44 [.string s] h fun v h' => v = .bool (userT s) ∧ h' = h := by
  refine Meets.mk rfl (by kernel_rfl) Tryd.func44 rfl (congrArg Array.toList Tryd.results44) ?_
  rcases Bool.eq_false_or_eq_true (decide (s = (ByteArray.mk #[42]))) with e1 | e1
  · simp only [evr, nextP_norm, evd, evq, beq_self_eq_true, cond_true, cond_false, reduceIte, Nat.reduceEqDiff, Nat.reduceAdd, Int.reduceBNe, Int.reduceBEq, Int.reduceLT, Int.reduceLE, Int.reduceEq, typs, e1]
    unfold userT star; rw [e1]; rfl
  · simp only [evr, nextP_norm, evd, evq, beq_self_eq_true, cond_true, cond_false, reduceIte, Nat.reduceEqDiff, Nat.reduceAdd, Int.reduceBNe, Int.reduceBEq, Int.reduceLT, Int.reduceLE, Int.reduceEq, typs, e1, (user_spec s h).call]
    unfold userT star; rw [e1]; rfl
theorem cmpLib_spec (s u : ByteArray) (h : Hp) : Meets kon 50 [.string s, .string u] h fun v h' => v = .int .i64 (Lib.compareBytes s.data.toList u.data.toList) ∧ h' = h :=
  ⟨_, _, Ret.sum (s := sumCmp Lib.compareBytes) rfl rfl, rfl, rfl⟩
theorem acompare_spec (a b : Tm) (h : Hp) : Meets kon 45 [tmV a, tmV b] h fun v h' => v = .int .i64 (Lib.compareBytes a.user.data.toList b.user.data.toList) ∧ Keep h h' := by
  unfold tmV
  refine Meets.mk rfl (by kernel_rfl) Tryd.func45 rfl (congrArg Array.toList Tryd.results45) ?_
  simp only [evr, nextP_norm, evd, evq, beq_self_eq_true, cond_true, cond_false, reduceIte, Nat.reduceEqDiff, Nat.reduceAdd, Int.reduceBNe, Int.reduceBEq, Int.reduceLT, Int.reduceLE, Int.reduceEq, evh, evp, Nat.reduceLeDiff, Nat.reduceSub, Nat.reduceBEq, typs, (cmpLib_spec a.user b.user _).call]
  exact ((Keep.push _ _).pushed)
theorem tmAt_eq {l : List Tm} {i : Nat} {x : Tm} (h : l[i]? = some x) : tmAt l i = x := by unfold tmAt; rw [h]; rfl
theorem all_succ {f : Nat → Bool} {i : Nat} (h : (List.range i).all f = true) (hi : f i = true) : (List.range (i + 1)).all f = true := by
  rw [List.range_succ, List.all_append, h]; simp [hi]
theorem all_no {f : Nat → Bool} {i n : Nat} (hi : i < n) (h : f i = false) : (List.range n).all f = false := by
  rw [Bool.eq_false_iff]; intro ha
  have := List.all_eq_true.1 ha i (List.mem_range.2 hi)
  rw [h] at this; cases this
theorem aMay_spec {h : Hp} {v : Value} {l : List Tm} (s : TmSl h v l) (hl : l.length ≤ 1000000000) : Meets kon 36 [v] h fun u h' => u = .bool (listMay l) ∧ Keep h h' := by
  refine Meets.mk rfl (by kernel_rfl) Tryd.func36 rfl (congrArg Array.toList Tryd.results36) ?_
  have la := s.len
  simp only [evr, nextP_norm, evd, evq, beq_self_eq_true, cond_true, cond_false, reduceIte, Nat.reduceEqDiff, Nat.reduceAdd, Int.reduceBNe, Int.reduceBEq, Int.reduceLT, Int.reduceLE, Int.reduceEq, typs, la]
  refine Wp_loop (fun k fr h' => Keep h h' ∧ ∃ i : Nat, k = l.length - i ∧ i ≤ l.length ∧ fr.get 0 = some v ∧ fr.get 5 = some v ∧ fr.get 6 = some (.int .i64 l.length) ∧ fr.get 7 = some (.int .i64 i) ∧ (List.range i).all (okAt l) = true) l.length ⟨Keep.refl _, 0, rfl, Nat.zero_le _, ?_, ?_, ?_, ?_, rfl⟩ ?_
  · simp only [evr, nextP_norm, evd, evq, beq_self_eq_true, cond_true, cond_false, reduceIte, Nat.reduceEqDiff, Nat.reduceAdd, Int.reduceBNe, Int.reduceBEq, Int.reduceLT, Int.reduceLE, Int.reduceEq, typs]
  · simp only [evr, nextP_norm, evd, evq, beq_self_eq_true, cond_true, cond_false, reduceIte, Nat.reduceEqDiff, Nat.reduceAdd, Int.reduceBNe, Int.reduceBEq, Int.reduceLT, Int.reduceLE, Int.reduceEq, typs]
  · simp only [evr, nextP_norm, evd, evq, beq_self_eq_true, cond_true, cond_false, reduceIte, Nat.reduceEqDiff, Nat.reduceAdd, Int.reduceBNe, Int.reduceBEq, Int.reduceLT, Int.reduceLE, Int.reduceEq, typs]
  · simp only [evr, nextP_norm, evd, evq, beq_self_eq_true, cond_true, cond_false, reduceIte, Nat.reduceEqDiff, Nat.reduceAdd, Int.reduceBNe, Int.reduceBEq, Int.reduceLT, Int.reduceLE, Int.reduceEq, typs]
    rfl
  rintro k fr h' ⟨hk, i, rfl, hi, g0, g5, g6, g7, hp⟩
  by_cases h3 : i < l.length
  · have e3 : decide ((i : Int) < l.length) = true := by simp; omega
    obtain ⟨x, hx⟩ : ∃ x, l[i]? = some x := ⟨_, List.getElem?_eq_getElem h3⟩
    obtain ⟨p, ha, hld⟩ := TmSl.load (s.keep hk) hx
    unfold tmV at hld
    simp only [evr, nextP_norm, evd, evq, beq_self_eq_true, cond_true, cond_false, reduceIte, Nat.reduceEqDiff, Nat.reduceAdd, Int.reduceBNe, Int.reduceBEq, Int.reduceLT, Int.reduceLE, Int.reduceEq, evh, evp, Nat.reduceLeDiff, Nat.reduceSub, Nat.reduceBEq, typs, la, g0, g5, g6, g7, e3, ha, hld, tmC]
    refine Eq.mpr (Wp_drawOrd (KR.mk (by kernel_rfl))) ?_
    generalize hh : (h'.push (Ob.row _ _ _)).set h'.next (Ob.row _ _ _) = h2
    have hk2 : Keep h h2 := by rw [← hh]; exact (hk.pushed).set hk.1
    have hg : h2.get h'.next = some (.row [.string x.user, .bool x.f.r, .bool x.f.w, .bool x.f.e] 54 (.rw 0 [])) := by rw [← hh]; exact Hp.get_set_self _ _ _
    have hr := rowOf_rw hg
    have hx' := tmAt_eq hx
    clear hh
    cases hu : userT x.user with
    | false =>
      simp only [evr, nextP_norm, evd, evq, beq_self_eq_true, cond_true, cond_false, reduceIte, Nat.reduceEqDiff, Nat.reduceAdd, Int.reduceBNe, Int.reduceBEq, Int.reduceLT, Int.reduceLE, Int.reduceEq, evh, evp, Nat.reduceLeDiff, Nat.reduceSub, Nat.reduceBEq, typs, la, g0, g5, g6, g7, hr, (auser_spec x.user _).call, hu]
      refine ⟨?_, hk2⟩
      unfold listMay
      rw [all_no h3 (by unfold okAt; rw [hx', hu]; rfl)]; rfl
    | true =>
      cases i with
      | zero =>
        simp only [evr, nextP_norm, evd, evq, beq_self_eq_true, cond_true, cond_false, reduceIte, Nat.reduceEqDiff, Nat.reduceAdd, Int.reduceBNe, Int.reduceBEq, Int.reduceLT, Int.reduceLE, Int.reduceEq, evh, evp, Nat.reduceLeDiff, Nat.reduceSub, Nat.reduceBEq, typs, la, g0, g5, g6, g7, hr, (auser_spec x.user _).call, hu, Int.natCast_zero, Int.lt_irrefl, wrap64 (x := ((0 : Nat) : Int) + 1) (by omega) (by omega)]
        refine ⟨l.length - 1, by omega, hk2, 1, rfl, by omega, rfl, ?_⟩
        refine all_succ hp ?_
        unfold okAt; rw [hx', hu]; rfl
      | succ j =>
        obtain ⟨y, hy⟩ : ∃ y, l[j]? = some y := ⟨_, List.getElem?_eq_getElem (by omega)⟩
        obtain ⟨p2, ha2, hld2⟩ := TmSl.load (s.keep hk2) hy
        unfold tmV at hld2
        have hy' := tmAt_eq hy
        have e4 : decide ((0 : Int) < ((j + 1 : Nat) : Int)) = true := decide_eq_true (by omega)
        have w1 : IntKind.i64.wrap (((j + 1 : Nat) : Int) - 1) = (j : Int) := by rw [wrap64 (by omega) (by omega)]; omega
        simp only [evr, nextP_norm, evd, evq, beq_self_eq_true, cond_true, cond_false, reduceIte, Nat.reduceEqDiff, Nat.reduceAdd, Int.reduceBNe, Int.reduceBEq, Int.reduceLT, Int.reduceLE, Int.reduceEq, evh, evp, Nat.reduceLeDiff, Nat.reduceSub, Nat.reduceBEq, typs, la, g0, g5, g6, g7, hr, (auser_spec x.user _).call, hu, e4, w1, ha2, hld2]
        refine callP_meets (acompare_spec y x _) ?_
        rintro u h3' ⟨rfl, hk3⟩
        have hok : okAt l (j + 1) = ltS y.user x.user := by
          unfold okAt; rw [hx', hu, Nat.add_sub_cancel, hy']; simp
        rw [ltS_cmp] at hok
        rcases Bool.eq_false_or_eq_true (decide ((0 : Int) ≤ Lib.compareBytes y.user.data.toList x.user.data.toList)) with e5 | e5
        · simp only [evr, nextP_norm, evd, evq, beq_self_eq_true, cond_true, cond_false, reduceIte, Nat.reduceEqDiff, Nat.reduceAdd, Int.reduceBNe, Int.reduceBEq, Int.reduceLT, Int.reduceLE, Int.reduceEq, evh, evp, Nat.reduceLeDiff, Nat.reduceSub, Nat.reduceBEq, typs, la, g0, g5, g6, g7, e5]
          refine ⟨?_, hk2.trans hk3⟩
          unfold listMay
          rw [all_no h3 (by rw [hok]; simp at e5 ⊢; omega)]; rfl
        · simp only [evr, nextP_norm, evd, evq, beq_self_eq_true, cond_true, cond_false, reduceIte, Nat.reduceEqDiff, Nat.reduceAdd, Int.reduceBNe, Int.reduceBEq, Int.reduceLT, Int.reduceLE, Int.reduceEq, evh, evp, Nat.reduceLeDiff, Nat.reduceSub, Nat.reduceBEq, typs, la, g0, g5, g6, g7, e5, wrap64 (x := ((j + 1 : Nat) : Int) + 1) (by omega) (by omega)]
          refine ⟨l.length - (j + 1 + 1), by omega, hk2.trans hk3, j + 1 + 1, rfl, by omega, rfl, ?_⟩
          refine all_succ hp ?_
          rw [hok]; simp at e5 ⊢; omega
  · have e3 : decide ((i : Int) < l.length) = false := by simp; omega
    have hi2 : i = l.length := by omega
    subst hi2
    simp only [evr, nextP_norm, evd, evq, beq_self_eq_true, cond_true, cond_false, reduceIte, Nat.reduceEqDiff, Nat.reduceAdd, Int.reduceBNe, Int.reduceBEq, Int.reduceLT, Int.reduceLE, Int.reduceEq, evh, evp, Nat.reduceLeDiff, Nat.reduceSub, Nat.reduceBEq, typs, la, g0, g5, g6, g7, e3]
    refine ⟨?_, hk⟩
    unfold listMay
    rw [hp]
    simp
    omega
theorem clone_spec {h : Hp} {v : Value} {l : List Tm} (s : TmSl h v l) (hl : l.length ≤ 1000000000) : Meets kon 38 [v] h fun u h' => Keep h h' ∧ TmTy h' (fun b => h.next ≤ b) u l := by
  refine Meets.mk rfl (by kernel_rfl) Tryd.func38 rfl (congrArg Array.toList Tryd.results38) ?_
  rcases id s with ⟨rfl, hn⟩ | ⟨b, o, k, c, all, rfl, h1, h2, h3, h4, h5⟩
  · repeat' (first | simp only [evr, nextP_norm, evd, evq, beq_self_eq_true, cond_true, cond_false, reduceIte, Nat.reduceEqDiff, Nat.reduceAdd, Int.reduceBNe, Int.reduceBEq, Int.reduceLT, Int.reduceLE, Int.reduceEq, evh, evp, Nat.reduceLeDiff, Nat.reduceSub, Nat.reduceBEq, typs] | refine kCond2_by (fun hc => ?_) (fun hc => ?_) <;> try simp only [hc] | refine kPick_by (fun hc => ?_) (fun hc => ?_) <;> try simp only [hc] | refine kWant_by (fun hc => ?_) (fun hc => ?_) <;> try simp only [hc])
    exact ⟨Keep.refl _, .inl ⟨rfl, hn⟩⟩
  · have hk : k = l.length := by rw [tms_len] at h4; omega
    subst hk
    obtain ⟨j, e1, e2, e3⟩ := SlAt.cells (s.keep (Keep.push h (.row [] 54 (.rw 0 []))))
    simp only [lenOf, Option.some.injEq] at e1
    subst e1
    have ha := append_zero (P := kon.P) (t := 22) (e := 54) (n := 4) (by_ := 24) (z := .agg #[.string ByteArray.empty, .bool false, .bool false, .bool false]) (by kernel_rfl) (by kernel_rfl) (by kernel_rfl) (by kernel_rfl) (by kernel_rfl) (b := h.next) (x := .slice (some ⟨b, o, none⟩) l.length c) rfl e2 e3 (tms_cell l)
      (Nat.le_trans (Nat.mul_le_mul_right 25 (show _ ≤ 2000001024 by omega)) (by decide))
    rcases Bool.eq_false_or_eq_true (l.length == 0) with hz | hz
    · rw [hz] at ha
      simp only [cond_true] at ha
      repeat' (first | simp only [evr, nextP_norm, evd, evq, beq_self_eq_true, cond_true, cond_false, reduceIte, Nat.reduceEqDiff, Nat.reduceAdd, Int.reduceBNe, Int.reduceBEq, Int.reduceLT, Int.reduceLE, Int.reduceEq, evh, evp, Nat.reduceLeDiff, Nat.reduceSub, Nat.reduceBEq, typs, ha] | refine kCond2_by (fun hc => ?_) (fun hc => ?_) <;> try simp only [hc] | refine kPick_by (fun hc => ?_) (fun hc => ?_) <;> try simp only [hc] | refine kWant_by (fun hc => ?_) (fun hc => ?_) <;> try simp only [hc])
      refine ⟨Keep.push _ _, .inr ⟨h.next, 0, 0, 2 * 0, [], _, rfl, Nat.le_refl _, Nat.le_refl _, Nat.lt_succ_self _, Hp.get_push_self _ _, trivial, ?_, ?_⟩⟩
      · rw [tms_len]; simp at hz; simp [hz]
      · have : (tms l).length = 0 := by rw [tms_len]; simp at hz; simp [hz]
        simp [List.length_eq_zero_iff.1 this]
    · rw [hz] at ha
      simp only [cond_false] at ha
      repeat' (first | simp only [evr, nextP_norm, evd, evq, beq_self_eq_true, cond_true, cond_false, reduceIte, Nat.reduceEqDiff, Nat.reduceAdd, Int.reduceBNe, Int.reduceBEq, Int.reduceLT, Int.reduceLE, Int.reduceEq, evh, evp, Nat.reduceLeDiff, Nat.reduceSub, Nat.reduceBEq, typs, ha] | refine kCond2_by (fun hc => ?_) (fun hc => ?_) <;> try simp only [hc] | refine kPick_by (fun hc => ?_) (fun hc => ?_) <;> try simp only [hc] | refine kWant_by (fun hc => ?_) (fun hc => ?_) <;> try simp only [hc])
      refine ⟨(Keep.push _ _).pushed, .inr ⟨h.next + 1, 0, l.length, 2 * l.length + 1, tms l, _, rfl, by omega, by omega, Nat.lt_succ_self _, Hp.get_push_self (h.push _) _, trivial, tms_len l, ?_⟩⟩
      rw [List.drop_zero, List.take_of_length_le (by rw [tms_len]; omega)]
theorem ringMay_spec (b : Bk) (h : Hp) : Meets kon 37 [bkV b] h fun v h' => v = .bool (bkMay b) ∧ Keep h h' := by
  unfold bkV
  refine Meets.mk rfl (by kernel_rfl) Tryd.func37 rfl (congrArg Array.toList Tryd.results37) ?_
  repeat' (first | simp only [evr, nextP_norm, evd, evq, beq_self_eq_true, cond_true, cond_false, reduceIte, Nat.reduceEqDiff, Nat.reduceAdd, Int.reduceBNe, Int.reduceBEq, Int.reduceLT, Int.reduceLE, Int.reduceEq, evh, evp, Nat.reduceLeDiff, Nat.reduceSub, Nat.reduceBEq, typs] | refine kCond2_by (fun hc => ?_) (fun hc => ?_) <;> try simp only [hc] | refine kPick_by (fun hc => ?_) (fun hc => ?_) <;> try simp only [hc] | refine kWant_by (fun hc => ?_) (fun hc => ?_) <;> try simp only [hc])
  all_goals (refine ⟨?_, Keep.push _ _⟩; congr 1; unfold bkMay; simp_all; try (intros; omega))
end Go.Proofs.YtojcfpgapfceiaaDoor
namespace Go.Proofs.YtojcfpgapfceiaaDoor
open Go Go.Ev Go.Con
set_option linter.unusedSimpArgs false
set_option linter.unusedVariables false
set_option maxRecDepth 100000
def obB (b : Bk) : Ob := .row [.int .i64 b.r1, .int .i64 b.r2, .int .i64 b.r3, .int .i64 b.g] 24 (.rw 0 [])
def obF (f : Fl) : Ob := .row [.bool f.r, .bool f.w, .bool f.e] 39 (.rw 0 [])
theorem ringMayX (b : Bk) (h : Hp) : Meets kon 37 [.agg #[.int .i64 b.r1, .int .i64 b.r2, .int .i64 b.r3, .int .i64 b.g]] h fun v h' => v = .bool (bkMay b) ∧ h' = h.push (obB b) := by
  unfold obB
  refine Meets.mk rfl (by kernel_rfl) Tryd.func37 rfl (congrArg Array.toList Tryd.results37) ?_
  repeat' (first | simp only [evr, nextP_norm, evd, evq, beq_self_eq_true, cond_true, cond_false, reduceIte, Nat.reduceEqDiff, Nat.reduceAdd, Int.reduceBNe, Int.reduceBEq, Int.reduceLT, Int.reduceLE, Int.reduceEq, evh, evp, Nat.reduceLeDiff, Nat.reduceSub, Nat.reduceBEq, typs] | refine kCond2_by (fun hc => ?_) (fun hc => ?_) <;> try simp only [hc] | refine kPick_by (fun hc => ?_) (fun hc => ?_) <;> try simp only [hc] | refine kWant_by (fun hc => ?_) (fun hc => ?_) <;> try simp only [hc])
  all_goals (congr 1; unfold bkMay; simp_all; try (intros; omega))
theorem refRingMayX (b : Bk) (h : Hp) : Meets kon 31 [.agg #[.int .i64 b.r1, .int .i64 b.r2, .int .i64 b.r3, .int .i64 b.g]] h fun v h' => v = .bool (bkMay b) ∧ h' = h.push (obB b) := by
  unfold obB
  refine Meets.mk rfl (by kernel_rfl) Tryd.func31 rfl (congrArg Array.toList Tryd.results31) ?_
  repeat' (first | simp only [evr, nextP_norm, evd, evq, beq_self_eq_true, cond_true, cond_false, reduceIte, Nat.reduceEqDiff, Nat.reduceAdd, Int.reduceBNe, Int.reduceBEq, Int.reduceLT, Int.reduceLE, Int.reduceEq, evh, evp, Nat.reduceLeDiff, Nat.reduceSub, Nat.reduceBEq, typs] | refine kCond2_by (fun hc => ?_) (fun hc => ?_) <;> try simp only [hc] | refine kPick_by (fun hc => ?_) (fun hc => ?_) <;> try simp only [hc] | refine kWant_by (fun hc => ?_) (fun hc => ?_) <;> try simp only [hc])
  all_goals (congr 1; unfold bkMay; simp_all; try (intros; omega))
theorem fineX (b : Bk) (r : Int) (h : Hp) : Meets kon 43 [.agg #[.int .i64 b.r1, .int .i64 b.r2, .int .i64 b.r3, .int .i64 b.g], .int .i64 r] h fun v h' => v = .bool (fineB b r) ∧ h' = (h.push (obB b)).push (obB b) := by
  have hm := fun h => (ringMayX b h).call
  unfold obB at *
  unfold fineB
  refine Meets.mk rfl (by kernel_rfl) Tryd.func43 rfl (congrArg Array.toList Tryd.results43) ?_
  cases hb : bkMay b <;> rw [hb] at hm <;> repeat' (first | simp only [evr, nextP_norm, evd, evq, beq_self_eq_true, cond_true, cond_false, reduceIte, Nat.reduceEqDiff, Nat.reduceAdd, Int.reduceBNe, Int.reduceBEq, Int.reduceLT, Int.reduceLE, Int.reduceEq, evh, evp, Nat.reduceLeDiff, Nat.reduceSub, Nat.reduceBEq, typs, hm] | refine kCond2_by (fun hc => ?_) (fun hc => ?_) <;> try simp only [hc] | refine kPick_by (fun hc => ?_) (fun hc => ?_) <;> try simp only [hc] | refine kWant_by (fun hc => ?_) (fun hc => ?_) <;> try simp only [hc])
  all_goals (clear hm; congr 1; (try simp_all); (try omega))
theorem readX (b : Bk) (f : Fl) (r : Int) (h : Hp) : Meets kon 32 [.agg #[.int .i64 b.r1, .int .i64 b.r2, .int .i64 b.r3, .int .i64 b.g], .agg #[.bool f.r, .bool f.w, .bool f.e], .int .i64 r] h fun v h' =>
    v = .int .i64 (readE b f r) ∧ h' = (((h.push (obB b)).push (obF f)).push (obB b)).push (obB b) := by
  have hm := fun h => (fineX b r h).call
  unfold obB at *
  unfold obF readE
  refine Meets.mk rfl (by kernel_rfl) Tryd.func32 rfl (congrArg Array.toList Tryd.results32) ?_
  cases hb : fineB b r <;> rw [hb] at hm <;> repeat' (first | simp only [evr, nextP_norm, evd, evq, beq_self_eq_true, cond_true, cond_false, reduceIte, Nat.reduceEqDiff, Nat.reduceAdd, Int.reduceBNe, Int.reduceBEq, Int.reduceLT, Int.reduceLE, Int.reduceEq, evh, evp, Nat.reduceLeDiff, Nat.reduceSub, Nat.reduceBEq, typs, hm] | refine kCond2_by (fun hc => ?_) (fun hc => ?_) <;> try simp only [hc] | refine kPick_by (fun hc => ?_) (fun hc => ?_) <;> try simp only [hc] | refine kWant_by (fun hc => ?_) (fun hc => ?_) <;> try simp only [hc])
  all_goals (clear hm; congr 1; (try simp_all); (try omega))
theorem writeX (b : Bk) (f : Fl) (r : Int) (h : Hp) : Meets kon 33 [.agg #[.int .i64 b.r1, .int .i64 b.r2, .int .i64 b.r3, .int .i64 b.g], .agg #[.bool f.r, .bool f.w, .bool f.e], .int .i64 r] h fun v h' =>
    v = .int .i64 (writeE b f r) ∧ h' = (((h.push (obB b)).push (obF f)).push (obB b)).push (obB b) := by
  have hm := fun h => (fineX b r h).call
  unfold obB at *
  unfold obF writeE
  refine Meets.mk rfl (by kernel_rfl) Tryd.func33 rfl (congrArg Array.toList Tryd.results33) ?_
  cases hb : fineB b r <;> rw [hb] at hm <;> repeat' (first | simp only [evr, nextP_norm, evd, evq, beq_self_eq_true, cond_true, cond_false, reduceIte, Nat.reduceEqDiff, Nat.reduceAdd, Int.reduceBNe, Int.reduceBEq, Int.reduceLT, Int.reduceLE, Int.reduceEq, evh, evp, Nat.reduceLeDiff, Nat.reduceSub, Nat.reduceBEq, typs, hm] | refine kCond2_by (fun hc => ?_) (fun hc => ?_) <;> try simp only [hc] | refine kPick_by (fun hc => ?_) (fun hc => ?_) <;> try simp only [hc] | refine kWant_by (fun hc => ?_) (fun hc => ?_) <;> try simp only [hc])
  all_goals (clear hm; congr 1; (try simp_all); (try omega))
theorem execX (b : Bk) (f : Fl) (r : Int) (h : Hp) : Meets kon 34 [.agg #[.int .i64 b.r1, .int .i64 b.r2, .int .i64 b.r3, .int .i64 b.g], .agg #[.bool f.r, .bool f.w, .bool f.e], .int .i64 r] h fun v h' =>
    v = .int .i64 (execE b f r) ∧ h' = (((h.push (obB b)).push (obF f)).push (obB b)).push (obB b) := by
  have hm := fun h => (fineX b r h).call
  unfold obB at *
  unfold obF execE
  refine Meets.mk rfl (by kernel_rfl) Tryd.func34 rfl (congrArg Array.toList Tryd.results34) ?_
  cases hb : fineB b r <;> rw [hb] at hm <;> repeat' (first | simp only [evr, nextP_norm, evd, evq, beq_self_eq_true, cond_true, cond_false, reduceIte, Nat.reduceEqDiff, Nat.reduceAdd, Int.reduceBNe, Int.reduceBEq, Int.reduceLT, Int.reduceLE, Int.reduceEq, evh, evp, Nat.reduceLeDiff, Nat.reduceSub, Nat.reduceBEq, typs, hm] | refine kCond2_by (fun hc => ?_) (fun hc => ?_) <;> try simp only [hc] | refine kPick_by (fun hc => ?_) (fun hc => ?_) <;> try simp only [hc] | refine kWant_by (fun hc => ?_) (fun hc => ?_) <;> try simp only [hc])
  all_goals (clear hm; congr 1; (try simp_all); (try omega))
set_option maxHeartbeats 2000000 in
theorem callX (b : Bk) (f : Fl) (r off : Int) (h : Hp) : Meets kon 29 [.agg #[.int .i64 b.r1, .int .i64 b.r2, .int .i64 b.r3, .int .i64 b.g], .agg #[.bool f.r, .bool f.w, .bool f.e], .int .i64 r, .int .i64 off] h fun v h' =>
    v = .tuple #[.int .i64 (callE b f r off).1, .int .i64 (callE b f r off).2] ∧ h' = (((h.push (obB b)).push (obF f)).push (obB b)).push (obB b) := by
  have hm := fun h => (fineX b r h).call
  unfold obB at *
  unfold obF callE
  refine Meets.mk rfl (by kernel_rfl) Tryd.func29 rfl (congrArg Array.toList Tryd.results29) ?_
  cases hb : fineB b r <;> rw [hb] at hm <;> repeat' (first | simp only [evr, nextP_norm, evd, evq, beq_self_eq_true, cond_true, cond_false, reduceIte, Nat.reduceEqDiff, Nat.reduceAdd, Int.reduceBNe, Int.reduceBEq, Int.reduceLT, Int.reduceLE, Int.reduceEq, evh, evp, Nat.reduceLeDiff, Nat.reduceSub, Nat.reduceBEq, typs, hm] | refine kCond2_by (fun hc => ?_) (fun hc => ?_) <;> try simp only [hc] | refine kPick_by (fun hc => ?_) (fun hc => ?_) <;> try simp only [hc] | refine kWant_by (fun hc => ?_) (fun hc => ?_) <;> try simp only [hc])
  all_goals (clear hm; (try simp_all); (try omega); (try ((repeat' (first | rw [if_pos (by omega)] | rw [if_neg (by omega)])) <;> exact ⟨rfl, rfl⟩)))
set_option maxHeartbeats 2000000 in
theorem rCallX (b : Bk) (f : Fl) (r off : Int) (h : Hp) : Meets kon 13 [.agg #[.int .i64 b.r1, .int .i64 b.r2, .int .i64 b.r3, .int .i64 b.g], .agg #[.bool f.r, .bool f.w, .bool f.e], .int .i64 r, .int .i64 off] h fun v h' =>
    v = .tuple #[.int .i64 (callE b f r off).1, .int .i64 (callE b f r off).2] ∧ h' = ((h.push (obB b)).push (obF f)).push (obB b) := by
  have hm := fun h => (refRingMayX b h).call
  unfold obB at *
  unfold obF callE fineB
  refine Meets.mk rfl (by kernel_rfl) Tryd.func13 rfl (congrArg Array.toList Tryd.results13) ?_
  cases hb : bkMay b <;> rw [hb] at hm <;> repeat' (first | simp only [evr, nextP_norm, evd, evq, beq_self_eq_true, cond_true, cond_false, reduceIte, Nat.reduceEqDiff, Nat.reduceAdd, Int.reduceBNe, Int.reduceBEq, Int.reduceLT, Int.reduceLE, Int.reduceEq, evh, evp, Nat.reduceLeDiff, Nat.reduceSub, Nat.reduceBEq, typs, hm] | refine kCond2_by (fun hc => ?_) (fun hc => ?_) <;> try simp only [hc] | refine kPick_by (fun hc => ?_) (fun hc => ?_) <;> try simp only [hc] | refine kWant_by (fun hc => ?_) (fun hc => ?_) <;> try simp only [hc])
  all_goals (clear hm; (try simp_all); (try omega); (try ((repeat' (first | rw [if_pos (by omega)] | rw [if_neg (by omega)])) <;> exact ⟨rfl, rfl⟩)))
def doE (k : Int) (b : Bk) (f : Fl) (r : Int) : Int := if k = 3 then writeE b f r else if k = 1 then execE b f r else readE b f r
set_option maxHeartbeats 2000000 in
theorem rDoX (k : Int) (b : Bk) (f : Fl) (r : Int) (h : Hp) : Meets kon 15 [.int .i64 k, .agg #[.int .i64 b.r1, .int .i64 b.r2, .int .i64 b.r3, .int .i64 b.g], .agg #[.bool f.r, .bool f.w, .bool f.e], .int .i64 r] h fun v h' =>
    v = .int .i64 (doE k b f r) ∧ h' = ((h.push (obB b)).push (obF f)).push (obB b) := by
  have hm := fun h => (refRingMayX b h).call
  unfold obB at *
  unfold obF doE
  refine Meets.mk rfl (by kernel_rfl) Tryd.func15 rfl (congrArg Array.toList Tryd.results15) ?_
  cases hb : bkMay b with
  | false =>
    have e1 : fineB b r = false := by unfold fineB; rw [hb]; rfl
    rw [hb] at hm
    repeat' (first | simp only [evr, nextP_norm, evd, evq, beq_self_eq_true, cond_true, cond_false, reduceIte, Nat.reduceEqDiff, Nat.reduceAdd, Int.reduceBNe, Int.reduceBEq, Int.reduceLT, Int.reduceLE, Int.reduceEq, evh, evp, Nat.reduceLeDiff, Nat.reduceSub, Nat.reduceBEq, typs, hm] | refine kCond2_by (fun hc => ?_) (fun hc => ?_) <;> try simp only [hc] | refine kPick_by (fun hc => ?_) (fun hc => ?_) <;> try simp only [hc] | refine kWant_by (fun hc => ?_) (fun hc => ?_) <;> try simp only [hc])
    all_goals (clear hm; unfold writeE execE readE; simp [e1])
  | true =>
    rw [hb] at hm
    by_cases h0 : r < 0
    · have e1 : fineB b r = false := by unfold fineB; simp; omega
      have e2 : decide (r < 0) = true := decide_eq_true h0
      repeat' (first | simp only [evr, nextP_norm, evd, evq, beq_self_eq_true, cond_true, cond_false, reduceIte, Nat.reduceEqDiff, Nat.reduceAdd, Int.reduceBNe, Int.reduceBEq, Int.reduceLT, Int.reduceLE, Int.reduceEq, evh, evp, Nat.reduceLeDiff, Nat.reduceSub, Nat.reduceBEq, typs, hm, e2] | refine kCond2_by (fun hc => ?_) (fun hc => ?_) <;> try simp only [hc] | refine kPick_by (fun hc => ?_) (fun hc => ?_) <;> try simp only [hc] | refine kWant_by (fun hc => ?_) (fun hc => ?_) <;> try simp only [hc])
      all_goals (clear hm; unfold writeE execE readE; simp [e1])
    · have e2 : decide (r < 0) = false := decide_eq_false h0
      by_cases h7 : 7 < r
      · have e1 : fineB b r = false := by unfold fineB; simp; omega
        have e3 : decide ((7 : Int) < r) = true := decide_eq_true h7
        repeat' (first | simp only [evr, nextP_norm, evd, evq, beq_self_eq_true, cond_true, cond_false, reduceIte, Nat.reduceEqDiff, Nat.reduceAdd, Int.reduceBNe, Int.reduceBEq, Int.reduceLT, Int.reduceLE, Int.reduceEq, evh, evp, Nat.reduceLeDiff, Nat.reduceSub, Nat.reduceBEq, typs, hm, e2, e3] | refine kCond2_by (fun hc => ?_) (fun hc => ?_) <;> try simp only [hc] | refine kPick_by (fun hc => ?_) (fun hc => ?_) <;> try simp only [hc] | refine kWant_by (fun hc => ?_) (fun hc => ?_) <;> try simp only [hc])
        all_goals (clear hm; unfold writeE execE readE; simp [e1])
      · have e1 : fineB b r = true := by unfold fineB; rw [hb]; simp; omega
        have e3 : decide ((7 : Int) < r) = false := decide_eq_false h7
        repeat' (first | simp only [evr, nextP_norm, evd, evq, beq_self_eq_true, cond_true, cond_false, reduceIte, Nat.reduceEqDiff, Nat.reduceAdd, Int.reduceBNe, Int.reduceBEq, Int.reduceLT, Int.reduceLE, Int.reduceEq, evh, evp, Nat.reduceLeDiff, Nat.reduceSub, Nat.reduceBEq, typs, hm, e2, e3] | refine kCond2_by (fun hc => ?_) (fun hc => ?_) <;> try simp only [hc] | refine kPick_by (fun hc => ?_) (fun hc => ?_) <;> try simp only [hc] | refine kWant_by (fun hc => ?_) (fun hc => ?_) <;> try simp only [hc])
        refine Eq.mpr (Wp_drawOrd (KR.mk (by kernel_rfl))) ?_
        by_cases k3 : k = 3
        · subst k3
          repeat' (first | simp only [evr, nextP_norm, evd, evq, beq_self_eq_true, cond_true, cond_false, reduceIte, Nat.reduceEqDiff, Nat.reduceAdd, Int.reduceBNe, Int.reduceBEq, Int.reduceLT, Int.reduceLE, Int.reduceEq, evh, evp, Nat.reduceLeDiff, Nat.reduceSub, Nat.reduceBEq, typs] | refine kCond2_by (fun hc => ?_) (fun hc => ?_) <;> try simp only [hc] | refine kPick_by (fun hc => ?_) (fun hc => ?_) <;> try simp only [hc] | refine kWant_by (fun hc => ?_) (fun hc => ?_) <;> try simp only [hc])
          refine Eq.mpr (Wp_drawOrd (KR.mk (by kernel_rfl))) ?_
          repeat' (first | simp only [evr, nextP_norm, evd, evq, beq_self_eq_true, cond_true, cond_false, reduceIte, Nat.reduceEqDiff, Nat.reduceAdd, Int.reduceBNe, Int.reduceBEq, Int.reduceLT, Int.reduceLE, Int.reduceEq, evh, evp, Nat.reduceLeDiff, Nat.reduceSub, Nat.reduceBEq, typs] | refine kCond2_by (fun hc => ?_) (fun hc => ?_) <;> try simp only [hc] | refine kPick_by (fun hc => ?_) (fun hc => ?_) <;> try simp only [hc] | refine kWant_by (fun hc => ?_) (fun hc => ?_) <;> try simp only [hc])
          all_goals (clear hm; unfold writeE; simp_all; try omega)
        · have f3 : (k == 3) = false := by simp [k3]
          by_cases k1 : k = 1
          · subst k1
            repeat' (first | simp only [evr, nextP_norm, evd, evq, beq_self_eq_true, cond_true, cond_false, reduceIte, Nat.reduceEqDiff, Nat.reduceAdd, Int.reduceBNe, Int.reduceBEq, Int.reduceLT, Int.reduceLE, Int.reduceEq, evh, evp, Nat.reduceLeDiff, Nat.reduceSub, Nat.reduceBEq, typs, f3] | refine kCond2_by (fun hc => ?_) (fun hc => ?_) <;> try simp only [hc] | refine kPick_by (fun hc => ?_) (fun hc => ?_) <;> try simp only [hc] | refine kWant_by (fun hc => ?_) (fun hc => ?_) <;> try simp only [hc])
            refine Eq.mpr (Wp_drawOrd (KR.mk (by kernel_rfl))) ?_
            repeat' (first | simp only [evr, nextP_norm, evd, evq, beq_self_eq_true, cond_true, cond_false, reduceIte, Nat.reduceEqDiff, Nat.reduceAdd, Int.reduceBNe, Int.reduceBEq, Int.reduceLT, Int.reduceLE, Int.reduceEq, evh, evp, Nat.reduceLeDiff, Nat.reduceSub, Nat.reduceBEq, typs] | refine kCond2_by (fun hc => ?_) (fun hc => ?_) <;> try simp only [hc] | refine kPick_by (fun hc => ?_) (fun hc => ?_) <;> try simp only [hc] | refine kWant_by (fun hc => ?_) (fun hc => ?_) <;> try simp only [hc])
            all_goals (clear hm; unfold execE; simp_all; try omega)
          · have f1 : (k == 1) = false := by simp [k1]
            repeat' (first | simp only [evr, nextP_norm, evd, evq, beq_self_eq_true, cond_true, cond_false, reduceIte, Nat.reduceEqDiff, Nat.reduceAdd, Int.reduceBNe, Int.reduceBEq, Int.reduceLT, Int.reduceLE, Int.reduceEq, evh, evp, Nat.reduceLeDiff, Nat.reduceSub, Nat.reduceBEq, typs, f3, f1] | refine kCond2_by (fun hc => ?_) (fun hc => ?_) <;> try simp only [hc] | refine kPick_by (fun hc => ?_) (fun hc => ?_) <;> try simp only [hc] | refine kWant_by (fun hc => ?_) (fun hc => ?_) <;> try simp only [hc])
            all_goals (clear hm; unfold readE; simp_all; try omega)
end Go.Proofs.YtojcfpgapfceiaaDoor
