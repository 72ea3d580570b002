/-
  Closed facts of this seat's program: layouts of its types, and functions that have a body. Printed by wip/dw/gen/lay.py. No condition.
-/
import Derived.Test.YtjbajnkbiohoeaaDoorDw7
import Derived.Test.YtjbajnkbiohoeaaDoorChecked
import Derived.KernelRfl
namespace Go.Proofs.YtjbajnkbiohoeaaDoor
open Go Go.Dw
set_option maxRecDepth 100000
theorem lay1 : layOf Tryd.prog 1 = some (false, 1, 8) := by kernel_rfl
theorem zero1 : zeroOf Tryd.prog 1 = some [.fnil] := by kernel_rfl
theorem lay2 : layOf Tryd.prog 2 = some (false, 1, 8) := by kernel_rfl
theorem zero2 : zeroOf Tryd.prog 2 = some [.int IntKind.i64 0] := by kernel_rfl
theorem lay3 : layOf Tryd.prog 3 = some (false, 1, 8) := by kernel_rfl
theorem zero3 : zeroOf Tryd.prog 3 = some [.int IntKind.i64 0] := by kernel_rfl
theorem lay4 : layOf Tryd.prog 4 = some (false, 1, 1) := by kernel_rfl
theorem zero4 : zeroOf Tryd.prog 4 = some [.bool false] := by kernel_rfl
theorem lay5 : layOf Tryd.prog 5 = some (false, 1, 1) := by kernel_rfl
theorem zero5 : zeroOf Tryd.prog 5 = some [.int IntKind.u8 0] := by kernel_rfl
theorem lay6 : layOf Tryd.prog 6 = some (false, 1, 1) := by kernel_rfl
theorem zero6 : zeroOf Tryd.prog 6 = some [.int IntKind.u8 0] := by kernel_rfl
theorem lay7 : layOf Tryd.prog 7 = some (true, 4, 24) := by kernel_rfl
theorem fld7_0 : fldOf Tryd.prog 7 0 = some (0, 2, 1) := by kernel_rfl
theorem fld7_1 : fldOf Tryd.prog 7 1 = some (1, 3, 1) := by kernel_rfl
theorem fld7_2 : fldOf Tryd.prog 7 2 = some (2, 4, 1) := by kernel_rfl
theorem fld7_3 : fldOf Tryd.prog 7 3 = some (3, 6, 1) := by kernel_rfl
theorem zero7 : zeroOf Tryd.prog 7 = some [.int IntKind.i64 0, .int IntKind.i64 0, .bool false, .int IntKind.u8 0] := by kernel_rfl
theorem lay8 : layOf Tryd.prog 8 = some (true, 4, 24) := by kernel_rfl
theorem fld8_0 : fldOf Tryd.prog 8 0 = some (0, 2, 1) := by kernel_rfl
theorem fld8_1 : fldOf Tryd.prog 8 1 = some (1, 3, 1) := by kernel_rfl
theorem fld8_2 : fldOf Tryd.prog 8 2 = some (2, 4, 1) := by kernel_rfl
theorem fld8_3 : fldOf Tryd.prog 8 3 = some (3, 6, 1) := by kernel_rfl
theorem zero8 : zeroOf Tryd.prog 8 = some [.int IntKind.i64 0, .int IntKind.i64 0, .bool false, .int IntKind.u8 0] := by kernel_rfl
theorem lay9 : layOf Tryd.prog 9 = some (false, 1, 16) := by kernel_rfl
theorem zero9 : zeroOf Tryd.prog 9 = some [.str []] := by kernel_rfl
theorem lay10 : layOf Tryd.prog 10 = some (false, 1, 16) := by kernel_rfl
theorem zero10 : zeroOf Tryd.prog 10 = some [.str []] := by kernel_rfl
theorem lay11 : layOf Tryd.prog 11 = some (false, 1, 16) := by kernel_rfl
theorem zero11 : zeroOf Tryd.prog 11 = some [.str []] := by kernel_rfl
theorem lay12 : layOf Tryd.prog 12 = some (false, 1, 8) := by kernel_rfl
theorem zero12 : zeroOf Tryd.prog 12 = some [.int IntKind.u64 0] := by kernel_rfl
theorem lay13 : layOf Tryd.prog 13 = some (true, 2, 24) := by kernel_rfl
theorem fld13_0 : fldOf Tryd.prog 13 0 = some (0, 9, 1) := by kernel_rfl
theorem fld13_1 : fldOf Tryd.prog 13 1 = some (1, 12, 1) := by kernel_rfl
theorem zero13 : zeroOf Tryd.prog 13 = some [.str [], .int IntKind.u64 0] := by kernel_rfl
theorem lay14 : layOf Tryd.prog 14 = some (true, 2, 24) := by kernel_rfl
theorem fld14_0 : fldOf Tryd.prog 14 0 = some (0, 9, 1) := by kernel_rfl
theorem fld14_1 : fldOf Tryd.prog 14 1 = some (1, 12, 1) := by kernel_rfl
theorem zero14 : zeroOf Tryd.prog 14 = some [.str [], .int IntKind.u64 0] := by kernel_rfl
theorem lay15 : layOf Tryd.prog 15 = some (false, 1, 8) := by kernel_rfl
theorem zero15 : zeroOf Tryd.prog 15 = some [.pnil] := by kernel_rfl
theorem lay16 : layOf Tryd.prog 16 = some (false, 1, 8) := by kernel_rfl
theorem zero16 : zeroOf Tryd.prog 16 = some [.pnil] := by kernel_rfl
theorem lay17 : layOf Tryd.prog 17 = some (false, 1, 8) := by kernel_rfl
theorem zero17 : zeroOf Tryd.prog 17 = some [.pnil] := by kernel_rfl
theorem lay18 : layOf Tryd.prog 18 = some (true, 1, 8) := by kernel_rfl
theorem fld18_0 : fldOf Tryd.prog 18 0 = some (0, 17, 1) := by kernel_rfl
theorem zero18 : zeroOf Tryd.prog 18 = some [.pnil] := by kernel_rfl
theorem lay19 : layOf Tryd.prog 19 = some (true, 1, 8) := by kernel_rfl
theorem fld19_0 : fldOf Tryd.prog 19 0 = some (0, 17, 1) := by kernel_rfl
theorem zero19 : zeroOf Tryd.prog 19 = some [.pnil] := by kernel_rfl
theorem lay20 : layOf Tryd.prog 20 = some (false, 1, 16) := by kernel_rfl
theorem zero20 : zeroOf Tryd.prog 20 = some [.inil] := by kernel_rfl
theorem lay21 : layOf Tryd.prog 21 = some (false, 1, 4) := by kernel_rfl
theorem zero21 : zeroOf Tryd.prog 21 = some [.int IntKind.i32 0] := by kernel_rfl
theorem lay22 : layOf Tryd.prog 22 = some (false, 1, 24) := by kernel_rfl
theorem el22 : elOf Tryd.prog 22 = some (37, 5) := by kernel_rfl
theorem zero22 : zeroOf Tryd.prog 22 = some [.nil] := by kernel_rfl
theorem lay23 : layOf Tryd.prog 23 = some (false, 1, 24) := by kernel_rfl
theorem el23 : elOf Tryd.prog 23 = some (25, 4) := by kernel_rfl
theorem zero23 : zeroOf Tryd.prog 23 = some [.nil] := by kernel_rfl
theorem lay24 : layOf Tryd.prog 24 = some (true, 4, 56) := by kernel_rfl
theorem fld24_0 : fldOf Tryd.prog 24 0 = some (0, 3, 1) := by kernel_rfl
theorem fld24_1 : fldOf Tryd.prog 24 1 = some (1, 9, 1) := by kernel_rfl
theorem fld24_2 : fldOf Tryd.prog 24 2 = some (2, 3, 1) := by kernel_rfl
theorem fld24_3 : fldOf Tryd.prog 24 3 = some (3, 23, 1) := by kernel_rfl
theorem zero24 : zeroOf Tryd.prog 24 = some [.int IntKind.i64 0, .str [], .int IntKind.i64 0, .nil] := by kernel_rfl
theorem lay25 : layOf Tryd.prog 25 = some (true, 4, 56) := by kernel_rfl
theorem fld25_0 : fldOf Tryd.prog 25 0 = some (0, 3, 1) := by kernel_rfl
theorem fld25_1 : fldOf Tryd.prog 25 1 = some (1, 9, 1) := by kernel_rfl
theorem fld25_2 : fldOf Tryd.prog 25 2 = some (2, 3, 1) := by kernel_rfl
theorem fld25_3 : fldOf Tryd.prog 25 3 = some (3, 23, 1) := by kernel_rfl
theorem zero25 : zeroOf Tryd.prog 25 = some [.int IntKind.i64 0, .str [], .int IntKind.i64 0, .nil] := by kernel_rfl
theorem lay26 : layOf Tryd.prog 26 = some (true, 6, 88) := by kernel_rfl
theorem fld26_0 : fldOf Tryd.prog 26 0 = some (0, 3, 1) := by kernel_rfl
theorem fld26_1 : fldOf Tryd.prog 26 1 = some (1, 22, 1) := by kernel_rfl
theorem fld26_2 : fldOf Tryd.prog 26 2 = some (2, 25, 4) := by kernel_rfl
theorem zero26 : zeroOf Tryd.prog 26 = some [.int IntKind.i64 0, .nil, .int IntKind.i64 0, .str [], .int IntKind.i64 0, .nil] := by kernel_rfl
theorem lay27 : layOf Tryd.prog 27 = some (true, 6, 88) := by kernel_rfl
theorem fld27_0 : fldOf Tryd.prog 27 0 = some (0, 3, 1) := by kernel_rfl
theorem fld27_1 : fldOf Tryd.prog 27 1 = some (1, 22, 1) := by kernel_rfl
theorem fld27_2 : fldOf Tryd.prog 27 2 = some (2, 25, 4) := by kernel_rfl
theorem zero27 : zeroOf Tryd.prog 27 = some [.int IntKind.i64 0, .nil, .int IntKind.i64 0, .str [], .int IntKind.i64 0, .nil] := by kernel_rfl
theorem lay28 : layOf Tryd.prog 28 = some (false, 1, 8) := by kernel_rfl
theorem zero28 : zeroOf Tryd.prog 28 = some [.int IntKind.i64 0] := by kernel_rfl
theorem lay30 : layOf Tryd.prog 30 = some (false, 1, 8) := by kernel_rfl
theorem zero30 : zeroOf Tryd.prog 30 = some [.fnil] := by kernel_rfl
theorem lay31 : layOf Tryd.prog 31 = some (false, 1, 8) := by kernel_rfl
theorem zero31 : zeroOf Tryd.prog 31 = some [.fnil] := by kernel_rfl
theorem lay32 : layOf Tryd.prog 32 = some (false, 1, 8) := by kernel_rfl
theorem zero32 : zeroOf Tryd.prog 32 = some [.fnil] := by kernel_rfl
theorem lay33 : layOf Tryd.prog 33 = some (false, 1, 24) := by kernel_rfl
theorem el33 : elOf Tryd.prog 33 = some (47, 2) := by kernel_rfl
theorem zero33 : zeroOf Tryd.prog 33 = some [.nil] := by kernel_rfl
theorem lay34 : layOf Tryd.prog 34 = some (false, 1, 8) := by kernel_rfl
theorem zero34 : zeroOf Tryd.prog 34 = some [.fnil] := by kernel_rfl
theorem lay35 : layOf Tryd.prog 35 = some (false, 1, 8) := by kernel_rfl
theorem zero35 : zeroOf Tryd.prog 35 = some [.pnil] := by kernel_rfl
theorem lay36 : layOf Tryd.prog 36 = some (true, 5, 72) := by kernel_rfl
theorem fld36_0 : fldOf Tryd.prog 36 0 = some (0, 9, 1) := by kernel_rfl
theorem fld36_1 : fldOf Tryd.prog 36 1 = some (1, 25, 4) := by kernel_rfl
theorem zero36 : zeroOf Tryd.prog 36 = some [.str [], .int IntKind.i64 0, .str [], .int IntKind.i64 0, .nil] := by kernel_rfl
theorem lay37 : layOf Tryd.prog 37 = some (true, 5, 72) := by kernel_rfl
theorem fld37_0 : fldOf Tryd.prog 37 0 = some (0, 9, 1) := by kernel_rfl
theorem fld37_1 : fldOf Tryd.prog 37 1 = some (1, 25, 4) := by kernel_rfl
theorem zero37 : zeroOf Tryd.prog 37 = some [.str [], .int IntKind.i64 0, .str [], .int IntKind.i64 0, .nil] := by kernel_rfl
theorem lay38 : layOf Tryd.prog 38 = some (false, 1, 8) := by kernel_rfl
theorem zero38 : zeroOf Tryd.prog 38 = some [.fnil] := by kernel_rfl
theorem lay39 : layOf Tryd.prog 39 = some (false, 1, 8) := by kernel_rfl
theorem zero39 : zeroOf Tryd.prog 39 = some [.fnil] := by kernel_rfl
theorem lay40 : layOf Tryd.prog 40 = some (false, 1, 8) := by kernel_rfl
theorem zero40 : zeroOf Tryd.prog 40 = some [.pnil] := by kernel_rfl
theorem lay41 : layOf Tryd.prog 41 = some (false, 1, 8) := by kernel_rfl
theorem zero41 : zeroOf Tryd.prog 41 = some [.mnil] := by kernel_rfl
theorem lay42 : layOf Tryd.prog 42 = some (true, 1, 8) := by kernel_rfl
theorem fld42_0 : fldOf Tryd.prog 42 0 = some (0, 41, 1) := by kernel_rfl
theorem zero42 : zeroOf Tryd.prog 42 = some [.mnil] := by kernel_rfl
theorem lay43 : layOf Tryd.prog 43 = some (true, 1, 8) := by kernel_rfl
theorem fld43_0 : fldOf Tryd.prog 43 0 = some (0, 41, 1) := by kernel_rfl
theorem zero43 : zeroOf Tryd.prog 43 = some [.mnil] := by kernel_rfl
theorem lay44 : layOf Tryd.prog 44 = some (false, 1, 8) := by kernel_rfl
theorem zero44 : zeroOf Tryd.prog 44 = some [.fnil] := by kernel_rfl
theorem lay45 : layOf Tryd.prog 45 = some (false, 1, 8) := by kernel_rfl
theorem zero45 : zeroOf Tryd.prog 45 = some [.fnil] := by kernel_rfl
theorem lay46 : layOf Tryd.prog 46 = some (false, 1, 8) := by kernel_rfl
theorem zero46 : zeroOf Tryd.prog 46 = some [.fnil] := by kernel_rfl
theorem lay47 : layOf Tryd.prog 47 = some (true, 2, 32) := by kernel_rfl
theorem ar47 : arOf Tryd.prog 47 = some (2, 9, 1) := by kernel_rfl
theorem zero47 : zeroOf Tryd.prog 47 = some [.str [], .str []] := by kernel_rfl
theorem lay48 : layOf Tryd.prog 48 = some (false, 1, 8) := by kernel_rfl
theorem zero48 : zeroOf Tryd.prog 48 = some [.fnil] := by kernel_rfl
theorem lay49 : layOf Tryd.prog 49 = some (false, 1, 8) := by kernel_rfl
theorem zero49 : zeroOf Tryd.prog 49 = some [.fnil] := by kernel_rfl
theorem lay50 : layOf Tryd.prog 50 = some (false, 1, 8) := by kernel_rfl
theorem zero50 : zeroOf Tryd.prog 50 = some [.fnil] := by kernel_rfl
theorem lay51 : layOf Tryd.prog 51 = some (true, 6, 48) := by kernel_rfl
theorem ar51 : arOf Tryd.prog 51 = some (6, 3, 1) := by kernel_rfl
theorem zero51 : zeroOf Tryd.prog 51 = some [.int IntKind.i64 0, .int IntKind.i64 0, .int IntKind.i64 0, .int IntKind.i64 0, .int IntKind.i64 0, .int IntKind.i64 0] := by kernel_rfl
theorem lay53 : layOf Tryd.prog 53 = some (false, 1, 8) := by kernel_rfl
theorem zero53 : zeroOf Tryd.prog 53 = some [.fnil] := by kernel_rfl
theorem lay54 : layOf Tryd.prog 54 = some (false, 1, 8) := by kernel_rfl
theorem zero54 : zeroOf Tryd.prog 54 = some [.fnil] := by kernel_rfl
theorem lay55 : layOf Tryd.prog 55 = some (false, 1, 8) := by kernel_rfl
theorem zero55 : zeroOf Tryd.prog 55 = some [.fnil] := by kernel_rfl
theorem lay56 : layOf Tryd.prog 56 = some (false, 1, 8) := by kernel_rfl
theorem zero56 : zeroOf Tryd.prog 56 = some [.fnil] := by kernel_rfl
theorem lay57 : layOf Tryd.prog 57 = some (false, 1, 8) := by kernel_rfl
theorem zero57 : zeroOf Tryd.prog 57 = some [.fnil] := by kernel_rfl
theorem lay58 : layOf Tryd.prog 58 = some (true, 256, 256) := by kernel_rfl
theorem ar58 : arOf Tryd.prog 58 = some (256, 4, 1) := by kernel_rfl
theorem lay59 : layOf Tryd.prog 59 = some (true, 256, 256) := by kernel_rfl
theorem ar59 : arOf Tryd.prog 59 = some (256, 4, 1) := by kernel_rfl
theorem lay61 : layOf Tryd.prog 61 = some (false, 1, 8) := by kernel_rfl
theorem zero61 : zeroOf Tryd.prog 61 = some [.fnil] := by kernel_rfl
theorem lay62 : layOf Tryd.prog 62 = some (false, 1, 8) := by kernel_rfl
theorem zero62 : zeroOf Tryd.prog 62 = some [.fnil] := by kernel_rfl
theorem lay63 : layOf Tryd.prog 63 = some (false, 1, 8) := by kernel_rfl
theorem zero63 : zeroOf Tryd.prog 63 = some [.fnil] := by kernel_rfl
theorem lay64 : layOf Tryd.prog 64 = some (false, 1, 8) := by kernel_rfl
theorem zero64 : zeroOf Tryd.prog 64 = some [.fnil] := by kernel_rfl
theorem lay65 : layOf Tryd.prog 65 = some (false, 1, 8) := by kernel_rfl
theorem zero65 : zeroOf Tryd.prog 65 = some [.fnil] := by kernel_rfl
theorem lay66 : layOf Tryd.prog 66 = some (false, 1, 8) := by kernel_rfl
theorem zero66 : zeroOf Tryd.prog 66 = some [.int IntKind.u64 0] := by kernel_rfl
theorem lay67 : layOf Tryd.prog 67 = some (false, 1, 8) := by kernel_rfl
theorem zero67 : zeroOf Tryd.prog 67 = some [.pnil] := by kernel_rfl
theorem lay68 : layOf Tryd.prog 68 = some (false, 1, 8) := by kernel_rfl
theorem zero68 : zeroOf Tryd.prog 68 = some [.fnil] := by kernel_rfl
theorem lay69 : layOf Tryd.prog 69 = some (true, 4, 40) := by kernel_rfl
theorem fld69_0 : fldOf Tryd.prog 69 0 = some (0, 17, 1) := by kernel_rfl
theorem fld69_1 : fldOf Tryd.prog 69 1 = some (1, 17, 1) := by kernel_rfl
theorem fld69_2 : fldOf Tryd.prog 69 2 = some (2, 17, 1) := by kernel_rfl
theorem fld69_3 : fldOf Tryd.prog 69 3 = some (3, 9, 1) := by kernel_rfl
theorem zero69 : zeroOf Tryd.prog 69 = some [.pnil, .pnil, .pnil, .str []] := by kernel_rfl
theorem lay70 : layOf Tryd.prog 70 = some (true, 4, 40) := by kernel_rfl
theorem fld70_0 : fldOf Tryd.prog 70 0 = some (0, 17, 1) := by kernel_rfl
theorem fld70_1 : fldOf Tryd.prog 70 1 = some (1, 17, 1) := by kernel_rfl
theorem fld70_2 : fldOf Tryd.prog 70 2 = some (2, 17, 1) := by kernel_rfl
theorem fld70_3 : fldOf Tryd.prog 70 3 = some (3, 9, 1) := by kernel_rfl
theorem zero70 : zeroOf Tryd.prog 70 = some [.pnil, .pnil, .pnil, .str []] := by kernel_rfl
theorem lay71 : layOf Tryd.prog 71 = some (true, 0, 0) := by kernel_rfl
theorem ar71 : arOf Tryd.prog 71 = some (0, 16, 1) := by kernel_rfl
theorem zero71 : zeroOf Tryd.prog 71 = some [] := by kernel_rfl
theorem lay72 : layOf Tryd.prog 72 = some (true, 0, 0) := by kernel_rfl
theorem zero72 : zeroOf Tryd.prog 72 = some [] := by kernel_rfl
theorem lay73 : layOf Tryd.prog 73 = some (true, 0, 0) := by kernel_rfl
theorem zero73 : zeroOf Tryd.prog 73 = some [] := by kernel_rfl
theorem lay74 : layOf Tryd.prog 74 = some (false, 1, 8) := by kernel_rfl
theorem zero74 : zeroOf Tryd.prog 74 = some [.fnil] := by kernel_rfl
theorem lay75 : layOf Tryd.prog 75 = some (false, 1, 4) := by kernel_rfl
theorem zero75 : zeroOf Tryd.prog 75 = some [.int IntKind.u32 0] := by kernel_rfl
theorem lay76 : layOf Tryd.prog 76 = some (false, 1, 1) := by kernel_rfl
theorem zero76 : zeroOf Tryd.prog 76 = some [.int IntKind.u8 0] := by kernel_rfl
theorem lay77 : layOf Tryd.prog 77 = some (false, 1, 1) := by kernel_rfl
theorem zero77 : zeroOf Tryd.prog 77 = some [.int IntKind.u8 0] := by kernel_rfl
theorem lay78 : layOf Tryd.prog 78 = some (false, 1, 8) := by kernel_rfl
theorem zero78 : zeroOf Tryd.prog 78 = some [.fnil] := by kernel_rfl
theorem lay79 : layOf Tryd.prog 79 = some (false, 1, 8) := by kernel_rfl
theorem zero79 : zeroOf Tryd.prog 79 = some [.pnil] := by kernel_rfl
theorem lay80 : layOf Tryd.prog 80 = some (false, 1, 4) := by kernel_rfl
theorem zero80 : zeroOf Tryd.prog 80 = some [.int IntKind.i32 0] := by kernel_rfl
theorem lay81 : layOf Tryd.prog 81 = some (false, 1, 4) := by kernel_rfl
theorem zero81 : zeroOf Tryd.prog 81 = some [.int IntKind.i32 0] := by kernel_rfl
theorem lay82 : layOf Tryd.prog 82 = some (true, 11, 48) := by kernel_rfl
theorem fld82_0 : fldOf Tryd.prog 82 0 = some (0, 12, 1) := by kernel_rfl
theorem fld82_1 : fldOf Tryd.prog 82 1 = some (1, 12, 1) := by kernel_rfl
theorem fld82_2 : fldOf Tryd.prog 82 2 = some (2, 75, 1) := by kernel_rfl
theorem fld82_3 : fldOf Tryd.prog 82 3 = some (3, 76, 1) := by kernel_rfl
theorem fld82_4 : fldOf Tryd.prog 82 4 = some (4, 5, 1) := by kernel_rfl
theorem fld82_5 : fldOf Tryd.prog 82 5 = some (5, 5, 1) := by kernel_rfl
theorem fld82_6 : fldOf Tryd.prog 82 6 = some (6, 77, 1) := by kernel_rfl
theorem fld82_7 : fldOf Tryd.prog 82 7 = some (7, 78, 1) := by kernel_rfl
theorem fld82_8 : fldOf Tryd.prog 82 8 = some (8, 79, 1) := by kernel_rfl
theorem fld82_9 : fldOf Tryd.prog 82 9 = some (9, 80, 1) := by kernel_rfl
theorem fld82_10 : fldOf Tryd.prog 82 10 = some (10, 81, 1) := by kernel_rfl
theorem zero82 : zeroOf Tryd.prog 82 = some [.int IntKind.u64 0, .int IntKind.u64 0, .int IntKind.u32 0, .int IntKind.u8 0, .int IntKind.u8 0, .int IntKind.u8 0, .int IntKind.u8 0, .fnil, .pnil, .int IntKind.i32 0, .int IntKind.i32 0] := by kernel_rfl
theorem lay83 : layOf Tryd.prog 83 = some (true, 11, 48) := by kernel_rfl
theorem fld83_0 : fldOf Tryd.prog 83 0 = some (0, 12, 1) := by kernel_rfl
theorem fld83_1 : fldOf Tryd.prog 83 1 = some (1, 12, 1) := by kernel_rfl
theorem fld83_2 : fldOf Tryd.prog 83 2 = some (2, 75, 1) := by kernel_rfl
theorem fld83_3 : fldOf Tryd.prog 83 3 = some (3, 76, 1) := by kernel_rfl
theorem fld83_4 : fldOf Tryd.prog 83 4 = some (4, 5, 1) := by kernel_rfl
theorem fld83_5 : fldOf Tryd.prog 83 5 = some (5, 5, 1) := by kernel_rfl
theorem fld83_6 : fldOf Tryd.prog 83 6 = some (6, 77, 1) := by kernel_rfl
theorem fld83_7 : fldOf Tryd.prog 83 7 = some (7, 78, 1) := by kernel_rfl
theorem fld83_8 : fldOf Tryd.prog 83 8 = some (8, 79, 1) := by kernel_rfl
theorem fld83_9 : fldOf Tryd.prog 83 9 = some (9, 80, 1) := by kernel_rfl
theorem fld83_10 : fldOf Tryd.prog 83 10 = some (10, 81, 1) := by kernel_rfl
theorem zero83 : zeroOf Tryd.prog 83 = some [.int IntKind.u64 0, .int IntKind.u64 0, .int IntKind.u32 0, .int IntKind.u8 0, .int IntKind.u8 0, .int IntKind.u8 0, .int IntKind.u8 0, .fnil, .pnil, .int IntKind.i32 0, .int IntKind.i32 0] := by kernel_rfl
theorem lay84 : layOf Tryd.prog 84 = some (false, 1, 8) := by kernel_rfl
theorem st1 {E : Env} {φ : St} {κ : St → Prop} (ty : TypeId) (pos : String) (after : Array Edge) (g : Option (Nat × Bool)) (a x : Operand) : stepD Tryd.prog E ⟨none, .store 1 a x, ty, pos, after, g⟩ φ κ = withO (ev E.G φ.fr a) fun da => withO (ev E.G φ.fr x) fun dx => storeD E φ 1 da dx κ := sD_store lay1 ty pos after g a x
theorem ld1 (S : List (Nat × O)) (d : D) (K : D → Prop) : loadN Tryd.prog S 1 d K = behind S d fun cs => loadD false 1 cs K := load_of lay1 d K
theorem st2 {E : Env} {φ : St} {κ : St → Prop} (ty : TypeId) (pos : String) (after : Array Edge) (g : Option (Nat × Bool)) (a x : Operand) : stepD Tryd.prog E ⟨none, .store 2 a x, ty, pos, after, g⟩ φ κ = withO (ev E.G φ.fr a) fun da => withO (ev E.G φ.fr x) fun dx => storeD E φ 1 da dx κ := sD_store lay2 ty pos after g a x
theorem ld2 (S : List (Nat × O)) (d : D) (K : D → Prop) : loadN Tryd.prog S 2 d K = behind S d fun cs => loadD false 1 cs K := load_of lay2 d K
theorem st3 {E : Env} {φ : St} {κ : St → Prop} (ty : TypeId) (pos : String) (after : Array Edge) (g : Option (Nat × Bool)) (a x : Operand) : stepD Tryd.prog E ⟨none, .store 3 a x, ty, pos, after, g⟩ φ κ = withO (ev E.G φ.fr a) fun da => withO (ev E.G φ.fr x) fun dx => storeD E φ 1 da dx κ := sD_store lay3 ty pos after g a x
theorem ld3 (S : List (Nat × O)) (d : D) (K : D → Prop) : loadN Tryd.prog S 3 d K = behind S d fun cs => loadD false 1 cs K := load_of lay3 d K
theorem st4 {E : Env} {φ : St} {κ : St → Prop} (ty : TypeId) (pos : String) (after : Array Edge) (g : Option (Nat × Bool)) (a x : Operand) : stepD Tryd.prog E ⟨none, .store 4 a x, ty, pos, after, g⟩ φ κ = withO (ev E.G φ.fr a) fun da => withO (ev E.G φ.fr x) fun dx => storeD E φ 1 da dx κ := sD_store lay4 ty pos after g a x
theorem ld4 (S : List (Nat × O)) (d : D) (K : D → Prop) : loadN Tryd.prog S 4 d K = behind S d fun cs => loadD false 1 cs K := load_of lay4 d K
theorem bb4 (a b : Bool) (K : D → Prop) : binD Tryd.prog .eql 4 (.bool a) (.bool b) K = K (.bool (a == b)) := binD_eql_bool 4 a b K Tryd.underlying4
theorem bn4 (a b : Bool) (K : D → Prop) : binD Tryd.prog .neq 4 (.bool a) (.bool b) K = K (.bool (!(a == b))) := binD_neq_bool 4 a b K Tryd.underlying4
theorem st5 {E : Env} {φ : St} {κ : St → Prop} (ty : TypeId) (pos : String) (after : Array Edge) (g : Option (Nat × Bool)) (a x : Operand) : stepD Tryd.prog E ⟨none, .store 5 a x, ty, pos, after, g⟩ φ κ = withO (ev E.G φ.fr a) fun da => withO (ev E.G φ.fr x) fun dx => storeD E φ 1 da dx κ := sD_store lay5 ty pos after g a x
theorem ld5 (S : List (Nat × O)) (d : D) (K : D → Prop) : loadN Tryd.prog S 5 d K = behind S d fun cs => loadD false 1 cs K := load_of lay5 d K
theorem st6 {E : Env} {φ : St} {κ : St → Prop} (ty : TypeId) (pos : String) (after : Array Edge) (g : Option (Nat × Bool)) (a x : Operand) : stepD Tryd.prog E ⟨none, .store 6 a x, ty, pos, after, g⟩ φ κ = withO (ev E.G φ.fr a) fun da => withO (ev E.G φ.fr x) fun dx => storeD E φ 1 da dx κ := sD_store lay6 ty pos after g a x
theorem ld6 (S : List (Nat × O)) (d : D) (K : D → Prop) : loadN Tryd.prog S 6 d K = behind S d fun cs => loadD false 1 cs K := load_of lay6 d K
theorem st7 {E : Env} {φ : St} {κ : St → Prop} (ty : TypeId) (pos : String) (after : Array Edge) (g : Option (Nat × Bool)) (a x : Operand) : stepD Tryd.prog E ⟨none, .store 7 a x, ty, pos, after, g⟩ φ κ = withO (ev E.G φ.fr a) fun da => withO (ev E.G φ.fr x) fun dx => storeD E φ 4 da dx κ := sD_store lay7 ty pos after g a x
theorem ld7 (S : List (Nat × O)) (d : D) (K : D → Prop) : loadN Tryd.prog S 7 d K = behind S d fun cs => loadD true 4 cs K := load_of lay7 d K
theorem fa7_0 (cs : List D) (K : D → Prop) : fieldAddrN Tryd.prog 7 (.rp cs) 0 K = K (.rp (cs.drop 0)) := fieldAddr_rp fld7_0 (by decide) cs K
theorem far7_0 (g b o : Nat) (K : D → Prop) : fieldAddrN Tryd.prog 7 (.ref g b o) 0 K = K (.ref g b (o + 0)) := fieldAddr_ref fld7_0 (by decide) g b o K
theorem fa7_1 (cs : List D) (K : D → Prop) : fieldAddrN Tryd.prog 7 (.rp cs) 1 K = K (.rp (cs.drop 1)) := fieldAddr_rp fld7_1 (by decide) cs K
theorem far7_1 (g b o : Nat) (K : D → Prop) : fieldAddrN Tryd.prog 7 (.ref g b o) 1 K = K (.ref g b (o + 1)) := fieldAddr_ref fld7_1 (by decide) g b o K
theorem fa7_2 (cs : List D) (K : D → Prop) : fieldAddrN Tryd.prog 7 (.rp cs) 2 K = K (.rp (cs.drop 2)) := fieldAddr_rp fld7_2 (by decide) cs K
theorem far7_2 (g b o : Nat) (K : D → Prop) : fieldAddrN Tryd.prog 7 (.ref g b o) 2 K = K (.ref g b (o + 2)) := fieldAddr_ref fld7_2 (by decide) g b o K
theorem fa7_3 (cs : List D) (K : D → Prop) : fieldAddrN Tryd.prog 7 (.rp cs) 3 K = K (.rp (cs.drop 3)) := fieldAddr_rp fld7_3 (by decide) cs K
theorem far7_3 (g b o : Nat) (K : D → Prop) : fieldAddrN Tryd.prog 7 (.ref g b o) 3 K = K (.ref g b (o + 3)) := fieldAddr_ref fld7_3 (by decide) g b o K
theorem st8 {E : Env} {φ : St} {κ : St → Prop} (ty : TypeId) (pos : String) (after : Array Edge) (g : Option (Nat × Bool)) (a x : Operand) : stepD Tryd.prog E ⟨none, .store 8 a x, ty, pos, after, g⟩ φ κ = withO (ev E.G φ.fr a) fun da => withO (ev E.G φ.fr x) fun dx => storeD E φ 4 da dx κ := sD_store lay8 ty pos after g a x
theorem ld8 (S : List (Nat × O)) (d : D) (K : D → Prop) : loadN Tryd.prog S 8 d K = behind S d fun cs => loadD true 4 cs K := load_of lay8 d K
theorem fa8_0 (cs : List D) (K : D → Prop) : fieldAddrN Tryd.prog 8 (.rp cs) 0 K = K (.rp (cs.drop 0)) := fieldAddr_rp fld8_0 (by decide) cs K
theorem far8_0 (g b o : Nat) (K : D → Prop) : fieldAddrN Tryd.prog 8 (.ref g b o) 0 K = K (.ref g b (o + 0)) := fieldAddr_ref fld8_0 (by decide) g b o K
theorem fa8_1 (cs : List D) (K : D → Prop) : fieldAddrN Tryd.prog 8 (.rp cs) 1 K = K (.rp (cs.drop 1)) := fieldAddr_rp fld8_1 (by decide) cs K
theorem far8_1 (g b o : Nat) (K : D → Prop) : fieldAddrN Tryd.prog 8 (.ref g b o) 1 K = K (.ref g b (o + 1)) := fieldAddr_ref fld8_1 (by decide) g b o K
theorem fa8_2 (cs : List D) (K : D → Prop) : fieldAddrN Tryd.prog 8 (.rp cs) 2 K = K (.rp (cs.drop 2)) := fieldAddr_rp fld8_2 (by decide) cs K
theorem far8_2 (g b o : Nat) (K : D → Prop) : fieldAddrN Tryd.prog 8 (.ref g b o) 2 K = K (.ref g b (o + 2)) := fieldAddr_ref fld8_2 (by decide) g b o K
theorem fa8_3 (cs : List D) (K : D → Prop) : fieldAddrN Tryd.prog 8 (.rp cs) 3 K = K (.rp (cs.drop 3)) := fieldAddr_rp fld8_3 (by decide) cs K
theorem far8_3 (g b o : Nat) (K : D → Prop) : fieldAddrN Tryd.prog 8 (.ref g b o) 3 K = K (.ref g b (o + 3)) := fieldAddr_ref fld8_3 (by decide) g b o K
theorem st9 {E : Env} {φ : St} {κ : St → Prop} (ty : TypeId) (pos : String) (after : Array Edge) (g : Option (Nat × Bool)) (a x : Operand) : stepD Tryd.prog E ⟨none, .store 9 a x, ty, pos, after, g⟩ φ κ = withO (ev E.G φ.fr a) fun da => withO (ev E.G φ.fr x) fun dx => storeD E φ 1 da dx κ := sD_store lay9 ty pos after g a x
theorem ld9 (S : List (Nat × O)) (d : D) (K : D → Prop) : loadN Tryd.prog S 9 d K = behind S d fun cs => loadD false 1 cs K := load_of lay9 d K
theorem lnt9 (S : List (Nat × O)) (l : List UInt8) (K : D → Prop) : lenN Tryd.prog S 9 (.str l) K = K (.int .i64 l.length) := lenN_str Tryd.underlying9 l K
theorem st10 {E : Env} {φ : St} {κ : St → Prop} (ty : TypeId) (pos : String) (after : Array Edge) (g : Option (Nat × Bool)) (a x : Operand) : stepD Tryd.prog E ⟨none, .store 10 a x, ty, pos, after, g⟩ φ κ = withO (ev E.G φ.fr a) fun da => withO (ev E.G φ.fr x) fun dx => storeD E φ 1 da dx κ := sD_store lay10 ty pos after g a x
theorem ld10 (S : List (Nat × O)) (d : D) (K : D → Prop) : loadN Tryd.prog S 10 d K = behind S d fun cs => loadD false 1 cs K := load_of lay10 d K
theorem lnt10 (S : List (Nat × O)) (l : List UInt8) (K : D → Prop) : lenN Tryd.prog S 10 (.str l) K = K (.int .i64 l.length) := lenN_str Tryd.underlying10 l K
theorem st11 {E : Env} {φ : St} {κ : St → Prop} (ty : TypeId) (pos : String) (after : Array Edge) (g : Option (Nat × Bool)) (a x : Operand) : stepD Tryd.prog E ⟨none, .store 11 a x, ty, pos, after, g⟩ φ κ = withO (ev E.G φ.fr a) fun da => withO (ev E.G φ.fr x) fun dx => storeD E φ 1 da dx κ := sD_store lay11 ty pos after g a x
theorem ld11 (S : List (Nat × O)) (d : D) (K : D → Prop) : loadN Tryd.prog S 11 d K = behind S d fun cs => loadD false 1 cs K := load_of lay11 d K
theorem lnt11 (S : List (Nat × O)) (l : List UInt8) (K : D → Prop) : lenN Tryd.prog S 11 (.str l) K = K (.int .i64 l.length) := lenN_str Tryd.underlying11 l K
theorem st12 {E : Env} {φ : St} {κ : St → Prop} (ty : TypeId) (pos : String) (after : Array Edge) (g : Option (Nat × Bool)) (a x : Operand) : stepD Tryd.prog E ⟨none, .store 12 a x, ty, pos, after, g⟩ φ κ = withO (ev E.G φ.fr a) fun da => withO (ev E.G φ.fr x) fun dx => storeD E φ 1 da dx κ := sD_store lay12 ty pos after g a x
theorem ld12 (S : List (Nat × O)) (d : D) (K : D → Prop) : loadN Tryd.prog S 12 d K = behind S d fun cs => loadD false 1 cs K := load_of lay12 d K
theorem st13 {E : Env} {φ : St} {κ : St → Prop} (ty : TypeId) (pos : String) (after : Array Edge) (g : Option (Nat × Bool)) (a x : Operand) : stepD Tryd.prog E ⟨none, .store 13 a x, ty, pos, after, g⟩ φ κ = withO (ev E.G φ.fr a) fun da => withO (ev E.G φ.fr x) fun dx => storeD E φ 2 da dx κ := sD_store lay13 ty pos after g a x
theorem ld13 (S : List (Nat × O)) (d : D) (K : D → Prop) : loadN Tryd.prog S 13 d K = behind S d fun cs => loadD true 2 cs K := load_of lay13 d K
theorem fa13_0 (cs : List D) (K : D → Prop) : fieldAddrN Tryd.prog 13 (.rp cs) 0 K = K (.rp (cs.drop 0)) := fieldAddr_rp fld13_0 (by decide) cs K
theorem far13_0 (g b o : Nat) (K : D → Prop) : fieldAddrN Tryd.prog 13 (.ref g b o) 0 K = K (.ref g b (o + 0)) := fieldAddr_ref fld13_0 (by decide) g b o K
theorem fa13_1 (cs : List D) (K : D → Prop) : fieldAddrN Tryd.prog 13 (.rp cs) 1 K = K (.rp (cs.drop 1)) := fieldAddr_rp fld13_1 (by decide) cs K
theorem far13_1 (g b o : Nat) (K : D → Prop) : fieldAddrN Tryd.prog 13 (.ref g b o) 1 K = K (.ref g b (o + 1)) := fieldAddr_ref fld13_1 (by decide) g b o K
theorem st14 {E : Env} {φ : St} {κ : St → Prop} (ty : TypeId) (pos : String) (after : Array Edge) (g : Option (Nat × Bool)) (a x : Operand) : stepD Tryd.prog E ⟨none, .store 14 a x, ty, pos, after, g⟩ φ κ = withO (ev E.G φ.fr a) fun da => withO (ev E.G φ.fr x) fun dx => storeD E φ 2 da dx κ := sD_store lay14 ty pos after g a x
theorem ld14 (S : List (Nat × O)) (d : D) (K : D → Prop) : loadN Tryd.prog S 14 d K = behind S d fun cs => loadD true 2 cs K := load_of lay14 d K
theorem fa14_0 (cs : List D) (K : D → Prop) : fieldAddrN Tryd.prog 14 (.rp cs) 0 K = K (.rp (cs.drop 0)) := fieldAddr_rp fld14_0 (by decide) cs K
theorem far14_0 (g b o : Nat) (K : D → Prop) : fieldAddrN Tryd.prog 14 (.ref g b o) 0 K = K (.ref g b (o + 0)) := fieldAddr_ref fld14_0 (by decide) g b o K
theorem fa14_1 (cs : List D) (K : D → Prop) : fieldAddrN Tryd.prog 14 (.rp cs) 1 K = K (.rp (cs.drop 1)) := fieldAddr_rp fld14_1 (by decide) cs K
theorem far14_1 (g b o : Nat) (K : D → Prop) : fieldAddrN Tryd.prog 14 (.ref g b o) 1 K = K (.ref g b (o + 1)) := fieldAddr_ref fld14_1 (by decide) g b o K
theorem st15 {E : Env} {φ : St} {κ : St → Prop} (ty : TypeId) (pos : String) (after : Array Edge) (g : Option (Nat × Bool)) (a x : Operand) : stepD Tryd.prog E ⟨none, .store 15 a x, ty, pos, after, g⟩ φ κ = withO (ev E.G φ.fr a) fun da => withO (ev E.G φ.fr x) fun dx => storeD E φ 1 da dx κ := sD_store lay15 ty pos after g a x
theorem ld15 (S : List (Nat × O)) (d : D) (K : D → Prop) : loadN Tryd.prog S 15 d K = behind S d fun cs => loadD false 1 cs K := load_of lay15 d K
theorem st16 {E : Env} {φ : St} {κ : St → Prop} (ty : TypeId) (pos : String) (after : Array Edge) (g : Option (Nat × Bool)) (a x : Operand) : stepD Tryd.prog E ⟨none, .store 16 a x, ty, pos, after, g⟩ φ κ = withO (ev E.G φ.fr a) fun da => withO (ev E.G φ.fr x) fun dx => storeD E φ 1 da dx κ := sD_store lay16 ty pos after g a x
theorem ld16 (S : List (Nat × O)) (d : D) (K : D → Prop) : loadN Tryd.prog S 16 d K = behind S d fun cs => loadD false 1 cs K := load_of lay16 d K
theorem st17 {E : Env} {φ : St} {κ : St → Prop} (ty : TypeId) (pos : String) (after : Array Edge) (g : Option (Nat × Bool)) (a x : Operand) : stepD Tryd.prog E ⟨none, .store 17 a x, ty, pos, after, g⟩ φ κ = withO (ev E.G φ.fr a) fun da => withO (ev E.G φ.fr x) fun dx => storeD E φ 1 da dx κ := sD_store lay17 ty pos after g a x
theorem ld17 (S : List (Nat × O)) (d : D) (K : D → Prop) : loadN Tryd.prog S 17 d K = behind S d fun cs => loadD false 1 cs K := load_of lay17 d K
theorem st18 {E : Env} {φ : St} {κ : St → Prop} (ty : TypeId) (pos : String) (after : Array Edge) (g : Option (Nat × Bool)) (a x : Operand) : stepD Tryd.prog E ⟨none, .store 18 a x, ty, pos, after, g⟩ φ κ = withO (ev E.G φ.fr a) fun da => withO (ev E.G φ.fr x) fun dx => storeD E φ 1 da dx κ := sD_store lay18 ty pos after g a x
theorem ld18 (S : List (Nat × O)) (d : D) (K : D → Prop) : loadN Tryd.prog S 18 d K = behind S d fun cs => loadD true 1 cs K := load_of lay18 d K
theorem fa18_0 (cs : List D) (K : D → Prop) : fieldAddrN Tryd.prog 18 (.rp cs) 0 K = K (.rp (cs.drop 0)) := fieldAddr_rp fld18_0 (by decide) cs K
theorem far18_0 (g b o : Nat) (K : D → Prop) : fieldAddrN Tryd.prog 18 (.ref g b o) 0 K = K (.ref g b (o + 0)) := fieldAddr_ref fld18_0 (by decide) g b o K
theorem st19 {E : Env} {φ : St} {κ : St → Prop} (ty : TypeId) (pos : String) (after : Array Edge) (g : Option (Nat × Bool)) (a x : Operand) : stepD Tryd.prog E ⟨none, .store 19 a x, ty, pos, after, g⟩ φ κ = withO (ev E.G φ.fr a) fun da => withO (ev E.G φ.fr x) fun dx => storeD E φ 1 da dx κ := sD_store lay19 ty pos after g a x
theorem ld19 (S : List (Nat × O)) (d : D) (K : D → Prop) : loadN Tryd.prog S 19 d K = behind S d fun cs => loadD true 1 cs K := load_of lay19 d K
theorem fa19_0 (cs : List D) (K : D → Prop) : fieldAddrN Tryd.prog 19 (.rp cs) 0 K = K (.rp (cs.drop 0)) := fieldAddr_rp fld19_0 (by decide) cs K
theorem far19_0 (g b o : Nat) (K : D → Prop) : fieldAddrN Tryd.prog 19 (.ref g b o) 0 K = K (.ref g b (o + 0)) := fieldAddr_ref fld19_0 (by decide) g b o K
theorem st20 {E : Env} {φ : St} {κ : St → Prop} (ty : TypeId) (pos : String) (after : Array Edge) (g : Option (Nat × Bool)) (a x : Operand) : stepD Tryd.prog E ⟨none, .store 20 a x, ty, pos, after, g⟩ φ κ = withO (ev E.G φ.fr a) fun da => withO (ev E.G φ.fr x) fun dx => storeD E φ 1 da dx κ := sD_store lay20 ty pos after g a x
theorem ld20 (S : List (Nat × O)) (d : D) (K : D → Prop) : loadN Tryd.prog S 20 d K = behind S d fun cs => loadD false 1 cs K := load_of lay20 d K
theorem st21 {E : Env} {φ : St} {κ : St → Prop} (ty : TypeId) (pos : String) (after : Array Edge) (g : Option (Nat × Bool)) (a x : Operand) : stepD Tryd.prog E ⟨none, .store 21 a x, ty, pos, after, g⟩ φ κ = withO (ev E.G φ.fr a) fun da => withO (ev E.G φ.fr x) fun dx => storeD E φ 1 da dx κ := sD_store lay21 ty pos after g a x
theorem ld21 (S : List (Nat × O)) (d : D) (K : D → Prop) : loadN Tryd.prog S 21 d K = behind S d fun cs => loadD false 1 cs K := load_of lay21 d K
theorem st22 {E : Env} {φ : St} {κ : St → Prop} (ty : TypeId) (pos : String) (after : Array Edge) (g : Option (Nat × Bool)) (a x : Operand) : stepD Tryd.prog E ⟨none, .store 22 a x, ty, pos, after, g⟩ φ κ = withO (ev E.G φ.fr a) fun da => withO (ev E.G φ.fr x) fun dx => storeD E φ 1 da dx κ := sD_store lay22 ty pos after g a x
theorem ld22 (S : List (Nat × O)) (d : D) (K : D → Prop) : loadN Tryd.prog S 22 d K = behind S d fun cs => loadD false 1 cs K := load_of lay22 d K
theorem ia22 (S : List (Nat × O)) (f : Bool) (k : Nat) (es : List (List D)) (ik : IntKind) (i : Int) (K : D → Prop) : indexAddrN Tryd.prog S 22 (.sl f k es) (.int ik i) K = (5 = k ∧ 0 ≤ i ∧ i < es.length ∧ K (.rp (es.getD i.toNat []))) := indexAddr_sl el22 f k es ik i K
theorem lns22 (S : List (Nat × O)) (f : Bool) (k : Nat) (es : List (List D)) (K : D → Prop) : lenN Tryd.prog S 22 (.sl f k es) K = K (.int .i64 es.length) := lenN_sl Tryd.underlying22 f k es K
theorem lnn22 (S : List (Nat × O)) (K : D → Prop) : lenN Tryd.prog S 22 .nil K = K (.int .i64 0) := lenN_nil Tryd.underlying22 K
theorem lno22 (S : List (Nat × O)) (g : Nat) (A : Option Addr) (n cap : Nat) (K : D → Prop) : lenN Tryd.prog S 22 (.own g A n cap) K = K (.int .i64 n) := lenN_own Tryd.underlying22 g A n cap K
theorem st23 {E : Env} {φ : St} {κ : St → Prop} (ty : TypeId) (pos : String) (after : Array Edge) (g : Option (Nat × Bool)) (a x : Operand) : stepD Tryd.prog E ⟨none, .store 23 a x, ty, pos, after, g⟩ φ κ = withO (ev E.G φ.fr a) fun da => withO (ev E.G φ.fr x) fun dx => storeD E φ 1 da dx κ := sD_store lay23 ty pos after g a x
theorem ld23 (S : List (Nat × O)) (d : D) (K : D → Prop) : loadN Tryd.prog S 23 d K = behind S d fun cs => loadD false 1 cs K := load_of lay23 d K
theorem ia23 (S : List (Nat × O)) (f : Bool) (k : Nat) (es : List (List D)) (ik : IntKind) (i : Int) (K : D → Prop) : indexAddrN Tryd.prog S 23 (.sl f k es) (.int ik i) K = (4 = k ∧ 0 ≤ i ∧ i < es.length ∧ K (.rp (es.getD i.toNat []))) := indexAddr_sl el23 f k es ik i K
theorem lns23 (S : List (Nat × O)) (f : Bool) (k : Nat) (es : List (List D)) (K : D → Prop) : lenN Tryd.prog S 23 (.sl f k es) K = K (.int .i64 es.length) := lenN_sl Tryd.underlying23 f k es K
theorem lnn23 (S : List (Nat × O)) (K : D → Prop) : lenN Tryd.prog S 23 .nil K = K (.int .i64 0) := lenN_nil Tryd.underlying23 K
theorem lno23 (S : List (Nat × O)) (g : Nat) (A : Option Addr) (n cap : Nat) (K : D → Prop) : lenN Tryd.prog S 23 (.own g A n cap) K = K (.int .i64 n) := lenN_own Tryd.underlying23 g A n cap K
theorem st24 {E : Env} {φ : St} {κ : St → Prop} (ty : TypeId) (pos : String) (after : Array Edge) (g : Option (Nat × Bool)) (a x : Operand) : stepD Tryd.prog E ⟨none, .store 24 a x, ty, pos, after, g⟩ φ κ = withO (ev E.G φ.fr a) fun da => withO (ev E.G φ.fr x) fun dx => storeD E φ 4 da dx κ := sD_store lay24 ty pos after g a x
theorem ld24 (S : List (Nat × O)) (d : D) (K : D → Prop) : loadN Tryd.prog S 24 d K = behind S d fun cs => loadD true 4 cs K := load_of lay24 d K
theorem fa24_0 (cs : List D) (K : D → Prop) : fieldAddrN Tryd.prog 24 (.rp cs) 0 K = K (.rp (cs.drop 0)) := fieldAddr_rp fld24_0 (by decide) cs K
theorem far24_0 (g b o : Nat) (K : D → Prop) : fieldAddrN Tryd.prog 24 (.ref g b o) 0 K = K (.ref g b (o + 0)) := fieldAddr_ref fld24_0 (by decide) g b o K
theorem fa24_1 (cs : List D) (K : D → Prop) : fieldAddrN Tryd.prog 24 (.rp cs) 1 K = K (.rp (cs.drop 1)) := fieldAddr_rp fld24_1 (by decide) cs K
theorem far24_1 (g b o : Nat) (K : D → Prop) : fieldAddrN Tryd.prog 24 (.ref g b o) 1 K = K (.ref g b (o + 1)) := fieldAddr_ref fld24_1 (by decide) g b o K
theorem fa24_2 (cs : List D) (K : D → Prop) : fieldAddrN Tryd.prog 24 (.rp cs) 2 K = K (.rp (cs.drop 2)) := fieldAddr_rp fld24_2 (by decide) cs K
theorem far24_2 (g b o : Nat) (K : D → Prop) : fieldAddrN Tryd.prog 24 (.ref g b o) 2 K = K (.ref g b (o + 2)) := fieldAddr_ref fld24_2 (by decide) g b o K
theorem fa24_3 (cs : List D) (K : D → Prop) : fieldAddrN Tryd.prog 24 (.rp cs) 3 K = K (.rp (cs.drop 3)) := fieldAddr_rp fld24_3 (by decide) cs K
theorem far24_3 (g b o : Nat) (K : D → Prop) : fieldAddrN Tryd.prog 24 (.ref g b o) 3 K = K (.ref g b (o + 3)) := fieldAddr_ref fld24_3 (by decide) g b o K
theorem st25 {E : Env} {φ : St} {κ : St → Prop} (ty : TypeId) (pos : String) (after : Array Edge) (g : Option (Nat × Bool)) (a x : Operand) : stepD Tryd.prog E ⟨none, .store 25 a x, ty, pos, after, g⟩ φ κ = withO (ev E.G φ.fr a) fun da => withO (ev E.G φ.fr x) fun dx => storeD E φ 4 da dx κ := sD_store lay25 ty pos after g a x
theorem ld25 (S : List (Nat × O)) (d : D) (K : D → Prop) : loadN Tryd.prog S 25 d K = behind S d fun cs => loadD true 4 cs K := load_of lay25 d K
theorem fa25_0 (cs : List D) (K : D → Prop) : fieldAddrN Tryd.prog 25 (.rp cs) 0 K = K (.rp (cs.drop 0)) := fieldAddr_rp fld25_0 (by decide) cs K
theorem far25_0 (g b o : Nat) (K : D → Prop) : fieldAddrN Tryd.prog 25 (.ref g b o) 0 K = K (.ref g b (o + 0)) := fieldAddr_ref fld25_0 (by decide) g b o K
theorem fa25_1 (cs : List D) (K : D → Prop) : fieldAddrN Tryd.prog 25 (.rp cs) 1 K = K (.rp (cs.drop 1)) := fieldAddr_rp fld25_1 (by decide) cs K
theorem far25_1 (g b o : Nat) (K : D → Prop) : fieldAddrN Tryd.prog 25 (.ref g b o) 1 K = K (.ref g b (o + 1)) := fieldAddr_ref fld25_1 (by decide) g b o K
theorem fa25_2 (cs : List D) (K : D → Prop) : fieldAddrN Tryd.prog 25 (.rp cs) 2 K = K (.rp (cs.drop 2)) := fieldAddr_rp fld25_2 (by decide) cs K
theorem far25_2 (g b o : Nat) (K : D → Prop) : fieldAddrN Tryd.prog 25 (.ref g b o) 2 K = K (.ref g b (o + 2)) := fieldAddr_ref fld25_2 (by decide) g b o K
theorem fa25_3 (cs : List D) (K : D → Prop) : fieldAddrN Tryd.prog 25 (.rp cs) 3 K = K (.rp (cs.drop 3)) := fieldAddr_rp fld25_3 (by decide) cs K
theorem far25_3 (g b o : Nat) (K : D → Prop) : fieldAddrN Tryd.prog 25 (.ref g b o) 3 K = K (.ref g b (o + 3)) := fieldAddr_ref fld25_3 (by decide) g b o K
theorem st26 {E : Env} {φ : St} {κ : St → Prop} (ty : TypeId) (pos : String) (after : Array Edge) (g : Option (Nat × Bool)) (a x : Operand) : stepD Tryd.prog E ⟨none, .store 26 a x, ty, pos, after, g⟩ φ κ = withO (ev E.G φ.fr a) fun da => withO (ev E.G φ.fr x) fun dx => storeD E φ 6 da dx κ := sD_store lay26 ty pos after g a x
theorem ld26 (S : List (Nat × O)) (d : D) (K : D → Prop) : loadN Tryd.prog S 26 d K = behind S d fun cs => loadD true 6 cs K := load_of lay26 d K
theorem fa26_0 (cs : List D) (K : D → Prop) : fieldAddrN Tryd.prog 26 (.rp cs) 0 K = K (.rp (cs.drop 0)) := fieldAddr_rp fld26_0 (by decide) cs K
theorem far26_0 (g b o : Nat) (K : D → Prop) : fieldAddrN Tryd.prog 26 (.ref g b o) 0 K = K (.ref g b (o + 0)) := fieldAddr_ref fld26_0 (by decide) g b o K
theorem fa26_1 (cs : List D) (K : D → Prop) : fieldAddrN Tryd.prog 26 (.rp cs) 1 K = K (.rp (cs.drop 1)) := fieldAddr_rp fld26_1 (by decide) cs K
theorem far26_1 (g b o : Nat) (K : D → Prop) : fieldAddrN Tryd.prog 26 (.ref g b o) 1 K = K (.ref g b (o + 1)) := fieldAddr_ref fld26_1 (by decide) g b o K
theorem fa26_2 (cs : List D) (K : D → Prop) : fieldAddrN Tryd.prog 26 (.rp cs) 2 K = K (.rp (cs.drop 2)) := fieldAddr_rp fld26_2 (by decide) cs K
theorem far26_2 (g b o : Nat) (K : D → Prop) : fieldAddrN Tryd.prog 26 (.ref g b o) 2 K = K (.ref g b (o + 2)) := fieldAddr_ref fld26_2 (by decide) g b o K
theorem st27 {E : Env} {φ : St} {κ : St → Prop} (ty : TypeId) (pos : String) (after : Array Edge) (g : Option (Nat × Bool)) (a x : Operand) : stepD Tryd.prog E ⟨none, .store 27 a x, ty, pos, after, g⟩ φ κ = withO (ev E.G φ.fr a) fun da => withO (ev E.G φ.fr x) fun dx => storeD E φ 6 da dx κ := sD_store lay27 ty pos after g a x
theorem ld27 (S : List (Nat × O)) (d : D) (K : D → Prop) : loadN Tryd.prog S 27 d K = behind S d fun cs => loadD true 6 cs K := load_of lay27 d K
theorem fa27_0 (cs : List D) (K : D → Prop) : fieldAddrN Tryd.prog 27 (.rp cs) 0 K = K (.rp (cs.drop 0)) := fieldAddr_rp fld27_0 (by decide) cs K
theorem far27_0 (g b o : Nat) (K : D → Prop) : fieldAddrN Tryd.prog 27 (.ref g b o) 0 K = K (.ref g b (o + 0)) := fieldAddr_ref fld27_0 (by decide) g b o K
theorem fa27_1 (cs : List D) (K : D → Prop) : fieldAddrN Tryd.prog 27 (.rp cs) 1 K = K (.rp (cs.drop 1)) := fieldAddr_rp fld27_1 (by decide) cs K
theorem far27_1 (g b o : Nat) (K : D → Prop) : fieldAddrN Tryd.prog 27 (.ref g b o) 1 K = K (.ref g b (o + 1)) := fieldAddr_ref fld27_1 (by decide) g b o K
theorem fa27_2 (cs : List D) (K : D → Prop) : fieldAddrN Tryd.prog 27 (.rp cs) 2 K = K (.rp (cs.drop 2)) := fieldAddr_rp fld27_2 (by decide) cs K
theorem far27_2 (g b o : Nat) (K : D → Prop) : fieldAddrN Tryd.prog 27 (.ref g b o) 2 K = K (.ref g b (o + 2)) := fieldAddr_ref fld27_2 (by decide) g b o K
theorem st28 {E : Env} {φ : St} {κ : St → Prop} (ty : TypeId) (pos : String) (after : Array Edge) (g : Option (Nat × Bool)) (a x : Operand) : stepD Tryd.prog E ⟨none, .store 28 a x, ty, pos, after, g⟩ φ κ = withO (ev E.G φ.fr a) fun da => withO (ev E.G φ.fr x) fun dx => storeD E φ 1 da dx κ := sD_store lay28 ty pos after g a x
theorem ld28 (S : List (Nat × O)) (d : D) (K : D → Prop) : loadN Tryd.prog S 28 d K = behind S d fun cs => loadD false 1 cs K := load_of lay28 d K
theorem st30 {E : Env} {φ : St} {κ : St → Prop} (ty : TypeId) (pos : String) (after : Array Edge) (g : Option (Nat × Bool)) (a x : Operand) : stepD Tryd.prog E ⟨none, .store 30 a x, ty, pos, after, g⟩ φ κ = withO (ev E.G φ.fr a) fun da => withO (ev E.G φ.fr x) fun dx => storeD E φ 1 da dx κ := sD_store lay30 ty pos after g a x
theorem ld30 (S : List (Nat × O)) (d : D) (K : D → Prop) : loadN Tryd.prog S 30 d K = behind S d fun cs => loadD false 1 cs K := load_of lay30 d K
theorem st31 {E : Env} {φ : St} {κ : St → Prop} (ty : TypeId) (pos : String) (after : Array Edge) (g : Option (Nat × Bool)) (a x : Operand) : stepD Tryd.prog E ⟨none, .store 31 a x, ty, pos, after, g⟩ φ κ = withO (ev E.G φ.fr a) fun da => withO (ev E.G φ.fr x) fun dx => storeD E φ 1 da dx κ := sD_store lay31 ty pos after g a x
theorem ld31 (S : List (Nat × O)) (d : D) (K : D → Prop) : loadN Tryd.prog S 31 d K = behind S d fun cs => loadD false 1 cs K := load_of lay31 d K
theorem st32 {E : Env} {φ : St} {κ : St → Prop} (ty : TypeId) (pos : String) (after : Array Edge) (g : Option (Nat × Bool)) (a x : Operand) : stepD Tryd.prog E ⟨none, .store 32 a x, ty, pos, after, g⟩ φ κ = withO (ev E.G φ.fr a) fun da => withO (ev E.G φ.fr x) fun dx => storeD E φ 1 da dx κ := sD_store lay32 ty pos after g a x
theorem ld32 (S : List (Nat × O)) (d : D) (K : D → Prop) : loadN Tryd.prog S 32 d K = behind S d fun cs => loadD false 1 cs K := load_of lay32 d K
theorem st33 {E : Env} {φ : St} {κ : St → Prop} (ty : TypeId) (pos : String) (after : Array Edge) (g : Option (Nat × Bool)) (a x : Operand) : stepD Tryd.prog E ⟨none, .store 33 a x, ty, pos, after, g⟩ φ κ = withO (ev E.G φ.fr a) fun da => withO (ev E.G φ.fr x) fun dx => storeD E φ 1 da dx κ := sD_store lay33 ty pos after g a x
theorem ld33 (S : List (Nat × O)) (d : D) (K : D → Prop) : loadN Tryd.prog S 33 d K = behind S d fun cs => loadD false 1 cs K := load_of lay33 d K
theorem ia33 (S : List (Nat × O)) (f : Bool) (k : Nat) (es : List (List D)) (ik : IntKind) (i : Int) (K : D → Prop) : indexAddrN Tryd.prog S 33 (.sl f k es) (.int ik i) K = (2 = k ∧ 0 ≤ i ∧ i < es.length ∧ K (.rp (es.getD i.toNat []))) := indexAddr_sl el33 f k es ik i K
theorem lns33 (S : List (Nat × O)) (f : Bool) (k : Nat) (es : List (List D)) (K : D → Prop) : lenN Tryd.prog S 33 (.sl f k es) K = K (.int .i64 es.length) := lenN_sl Tryd.underlying33 f k es K
theorem lnn33 (S : List (Nat × O)) (K : D → Prop) : lenN Tryd.prog S 33 .nil K = K (.int .i64 0) := lenN_nil Tryd.underlying33 K
theorem lno33 (S : List (Nat × O)) (g : Nat) (A : Option Addr) (n cap : Nat) (K : D → Prop) : lenN Tryd.prog S 33 (.own g A n cap) K = K (.int .i64 n) := lenN_own Tryd.underlying33 g A n cap K
theorem st34 {E : Env} {φ : St} {κ : St → Prop} (ty : TypeId) (pos : String) (after : Array Edge) (g : Option (Nat × Bool)) (a x : Operand) : stepD Tryd.prog E ⟨none, .store 34 a x, ty, pos, after, g⟩ φ κ = withO (ev E.G φ.fr a) fun da => withO (ev E.G φ.fr x) fun dx => storeD E φ 1 da dx κ := sD_store lay34 ty pos after g a x
theorem ld34 (S : List (Nat × O)) (d : D) (K : D → Prop) : loadN Tryd.prog S 34 d K = behind S d fun cs => loadD false 1 cs K := load_of lay34 d K
theorem st35 {E : Env} {φ : St} {κ : St → Prop} (ty : TypeId) (pos : String) (after : Array Edge) (g : Option (Nat × Bool)) (a x : Operand) : stepD Tryd.prog E ⟨none, .store 35 a x, ty, pos, after, g⟩ φ κ = withO (ev E.G φ.fr a) fun da => withO (ev E.G φ.fr x) fun dx => storeD E φ 1 da dx κ := sD_store lay35 ty pos after g a x
theorem ld35 (S : List (Nat × O)) (d : D) (K : D → Prop) : loadN Tryd.prog S 35 d K = behind S d fun cs => loadD false 1 cs K := load_of lay35 d K
theorem st36 {E : Env} {φ : St} {κ : St → Prop} (ty : TypeId) (pos : String) (after : Array Edge) (g : Option (Nat × Bool)) (a x : Operand) : stepD Tryd.prog E ⟨none, .store 36 a x, ty, pos, after, g⟩ φ κ = withO (ev E.G φ.fr a) fun da => withO (ev E.G φ.fr x) fun dx => storeD E φ 5 da dx κ := sD_store lay36 ty pos after g a x
theorem ld36 (S : List (Nat × O)) (d : D) (K : D → Prop) : loadN Tryd.prog S 36 d K = behind S d fun cs => loadD true 5 cs K := load_of lay36 d K
theorem fa36_0 (cs : List D) (K : D → Prop) : fieldAddrN Tryd.prog 36 (.rp cs) 0 K = K (.rp (cs.drop 0)) := fieldAddr_rp fld36_0 (by decide) cs K
theorem far36_0 (g b o : Nat) (K : D → Prop) : fieldAddrN Tryd.prog 36 (.ref g b o) 0 K = K (.ref g b (o + 0)) := fieldAddr_ref fld36_0 (by decide) g b o K
theorem fa36_1 (cs : List D) (K : D → Prop) : fieldAddrN Tryd.prog 36 (.rp cs) 1 K = K (.rp (cs.drop 1)) := fieldAddr_rp fld36_1 (by decide) cs K
theorem far36_1 (g b o : Nat) (K : D → Prop) : fieldAddrN Tryd.prog 36 (.ref g b o) 1 K = K (.ref g b (o + 1)) := fieldAddr_ref fld36_1 (by decide) g b o K
theorem st37 {E : Env} {φ : St} {κ : St → Prop} (ty : TypeId) (pos : String) (after : Array Edge) (g : Option (Nat × Bool)) (a x : Operand) : stepD Tryd.prog E ⟨none, .store 37 a x, ty, pos, after, g⟩ φ κ = withO (ev E.G φ.fr a) fun da => withO (ev E.G φ.fr x) fun dx => storeD E φ 5 da dx κ := sD_store lay37 ty pos after g a x
theorem ld37 (S : List (Nat × O)) (d : D) (K : D → Prop) : loadN Tryd.prog S 37 d K = behind S d fun cs => loadD true 5 cs K := load_of lay37 d K
theorem fa37_0 (cs : List D) (K : D → Prop) : fieldAddrN Tryd.prog 37 (.rp cs) 0 K = K (.rp (cs.drop 0)) := fieldAddr_rp fld37_0 (by decide) cs K
theorem far37_0 (g b o : Nat) (K : D → Prop) : fieldAddrN Tryd.prog 37 (.ref g b o) 0 K = K (.ref g b (o + 0)) := fieldAddr_ref fld37_0 (by decide) g b o K
theorem fa37_1 (cs : List D) (K : D → Prop) : fieldAddrN Tryd.prog 37 (.rp cs) 1 K = K (.rp (cs.drop 1)) := fieldAddr_rp fld37_1 (by decide) cs K
theorem far37_1 (g b o : Nat) (K : D → Prop) : fieldAddrN Tryd.prog 37 (.ref g b o) 1 K = K (.ref g b (o + 1)) := fieldAddr_ref fld37_1 (by decide) g b o K
theorem st38 {E : Env} {φ : St} {κ : St → Prop} (ty : TypeId) (pos : String) (after : Array Edge) (g : Option (Nat × Bool)) (a x : Operand) : stepD Tryd.prog E ⟨none, .store 38 a x, ty, pos, after, g⟩ φ κ = withO (ev E.G φ.fr a) fun da => withO (ev E.G φ.fr x) fun dx => storeD E φ 1 da dx κ := sD_store lay38 ty pos after g a x
theorem ld38 (S : List (Nat × O)) (d : D) (K : D → Prop) : loadN Tryd.prog S 38 d K = behind S d fun cs => loadD false 1 cs K := load_of lay38 d K
theorem st39 {E : Env} {φ : St} {κ : St → Prop} (ty : TypeId) (pos : String) (after : Array Edge) (g : Option (Nat × Bool)) (a x : Operand) : stepD Tryd.prog E ⟨none, .store 39 a x, ty, pos, after, g⟩ φ κ = withO (ev E.G φ.fr a) fun da => withO (ev E.G φ.fr x) fun dx => storeD E φ 1 da dx κ := sD_store lay39 ty pos after g a x
theorem ld39 (S : List (Nat × O)) (d : D) (K : D → Prop) : loadN Tryd.prog S 39 d K = behind S d fun cs => loadD false 1 cs K := load_of lay39 d K
theorem st40 {E : Env} {φ : St} {κ : St → Prop} (ty : TypeId) (pos : String) (after : Array Edge) (g : Option (Nat × Bool)) (a x : Operand) : stepD Tryd.prog E ⟨none, .store 40 a x, ty, pos, after, g⟩ φ κ = withO (ev E.G φ.fr a) fun da => withO (ev E.G φ.fr x) fun dx => storeD E φ 1 da dx κ := sD_store lay40 ty pos after g a x
theorem ld40 (S : List (Nat × O)) (d : D) (K : D → Prop) : loadN Tryd.prog S 40 d K = behind S d fun cs => loadD false 1 cs K := load_of lay40 d K
theorem st41 {E : Env} {φ : St} {κ : St → Prop} (ty : TypeId) (pos : String) (after : Array Edge) (g : Option (Nat × Bool)) (a x : Operand) : stepD Tryd.prog E ⟨none, .store 41 a x, ty, pos, after, g⟩ φ κ = withO (ev E.G φ.fr a) fun da => withO (ev E.G φ.fr x) fun dx => storeD E φ 1 da dx κ := sD_store lay41 ty pos after g a x
theorem ld41 (S : List (Nat × O)) (d : D) (K : D → Prop) : loadN Tryd.prog S 41 d K = behind S d fun cs => loadD false 1 cs K := load_of lay41 d K
theorem st42 {E : Env} {φ : St} {κ : St → Prop} (ty : TypeId) (pos : String) (after : Array Edge) (g : Option (Nat × Bool)) (a x : Operand) : stepD Tryd.prog E ⟨none, .store 42 a x, ty, pos, after, g⟩ φ κ = withO (ev E.G φ.fr a) fun da => withO (ev E.G φ.fr x) fun dx => storeD E φ 1 da dx κ := sD_store lay42 ty pos after g a x
theorem ld42 (S : List (Nat × O)) (d : D) (K : D → Prop) : loadN Tryd.prog S 42 d K = behind S d fun cs => loadD true 1 cs K := load_of lay42 d K
theorem fa42_0 (cs : List D) (K : D → Prop) : fieldAddrN Tryd.prog 42 (.rp cs) 0 K = K (.rp (cs.drop 0)) := fieldAddr_rp fld42_0 (by decide) cs K
theorem far42_0 (g b o : Nat) (K : D → Prop) : fieldAddrN Tryd.prog 42 (.ref g b o) 0 K = K (.ref g b (o + 0)) := fieldAddr_ref fld42_0 (by decide) g b o K
theorem st43 {E : Env} {φ : St} {κ : St → Prop} (ty : TypeId) (pos : String) (after : Array Edge) (g : Option (Nat × Bool)) (a x : Operand) : stepD Tryd.prog E ⟨none, .store 43 a x, ty, pos, after, g⟩ φ κ = withO (ev E.G φ.fr a) fun da => withO (ev E.G φ.fr x) fun dx => storeD E φ 1 da dx κ := sD_store lay43 ty pos after g a x
theorem ld43 (S : List (Nat × O)) (d : D) (K : D → Prop) : loadN Tryd.prog S 43 d K = behind S d fun cs => loadD true 1 cs K := load_of lay43 d K
theorem fa43_0 (cs : List D) (K : D → Prop) : fieldAddrN Tryd.prog 43 (.rp cs) 0 K = K (.rp (cs.drop 0)) := fieldAddr_rp fld43_0 (by decide) cs K
theorem far43_0 (g b o : Nat) (K : D → Prop) : fieldAddrN Tryd.prog 43 (.ref g b o) 0 K = K (.ref g b (o + 0)) := fieldAddr_ref fld43_0 (by decide) g b o K
theorem st44 {E : Env} {φ : St} {κ : St → Prop} (ty : TypeId) (pos : String) (after : Array Edge) (g : Option (Nat × Bool)) (a x : Operand) : stepD Tryd.prog E ⟨none, .store 44 a x, ty, pos, after, g⟩ φ κ = withO (ev E.G φ.fr a) fun da => withO (ev E.G φ.fr x) fun dx => storeD E φ 1 da dx κ := sD_store lay44 ty pos after g a x
theorem ld44 (S : List (Nat × O)) (d : D) (K : D → Prop) : loadN Tryd.prog S 44 d K = behind S d fun cs => loadD false 1 cs K := load_of lay44 d K
theorem st45 {E : Env} {φ : St} {κ : St → Prop} (ty : TypeId) (pos : String) (after : Array Edge) (g : Option (Nat × Bool)) (a x : Operand) : stepD Tryd.prog E ⟨none, .store 45 a x, ty, pos, after, g⟩ φ κ = withO (ev E.G φ.fr a) fun da => withO (ev E.G φ.fr x) fun dx => storeD E φ 1 da dx κ := sD_store lay45 ty pos after g a x
theorem ld45 (S : List (Nat × O)) (d : D) (K : D → Prop) : loadN Tryd.prog S 45 d K = behind S d fun cs => loadD false 1 cs K := load_of lay45 d K
theorem st46 {E : Env} {φ : St} {κ : St → Prop} (ty : TypeId) (pos : String) (after : Array Edge) (g : Option (Nat × Bool)) (a x : Operand) : stepD Tryd.prog E ⟨none, .store 46 a x, ty, pos, after, g⟩ φ κ = withO (ev E.G φ.fr a) fun da => withO (ev E.G φ.fr x) fun dx => storeD E φ 1 da dx κ := sD_store lay46 ty pos after g a x
theorem ld46 (S : List (Nat × O)) (d : D) (K : D → Prop) : loadN Tryd.prog S 46 d K = behind S d fun cs => loadD false 1 cs K := load_of lay46 d K
theorem st47 {E : Env} {φ : St} {κ : St → Prop} (ty : TypeId) (pos : String) (after : Array Edge) (g : Option (Nat × Bool)) (a x : Operand) : stepD Tryd.prog E ⟨none, .store 47 a x, ty, pos, after, g⟩ φ κ = withO (ev E.G φ.fr a) fun da => withO (ev E.G φ.fr x) fun dx => storeD E φ 2 da dx κ := sD_store lay47 ty pos after g a x
theorem ld47 (S : List (Nat × O)) (d : D) (K : D → Prop) : loadN Tryd.prog S 47 d K = behind S d fun cs => loadD true 2 cs K := load_of lay47 d K
theorem st48 {E : Env} {φ : St} {κ : St → Prop} (ty : TypeId) (pos : String) (after : Array Edge) (g : Option (Nat × Bool)) (a x : Operand) : stepD Tryd.prog E ⟨none, .store 48 a x, ty, pos, after, g⟩ φ κ = withO (ev E.G φ.fr a) fun da => withO (ev E.G φ.fr x) fun dx => storeD E φ 1 da dx κ := sD_store lay48 ty pos after g a x
theorem ld48 (S : List (Nat × O)) (d : D) (K : D → Prop) : loadN Tryd.prog S 48 d K = behind S d fun cs => loadD false 1 cs K := load_of lay48 d K
theorem st49 {E : Env} {φ : St} {κ : St → Prop} (ty : TypeId) (pos : String) (after : Array Edge) (g : Option (Nat × Bool)) (a x : Operand) : stepD Tryd.prog E ⟨none, .store 49 a x, ty, pos, after, g⟩ φ κ = withO (ev E.G φ.fr a) fun da => withO (ev E.G φ.fr x) fun dx => storeD E φ 1 da dx κ := sD_store lay49 ty pos after g a x
theorem ld49 (S : List (Nat × O)) (d : D) (K : D → Prop) : loadN Tryd.prog S 49 d K = behind S d fun cs => loadD false 1 cs K := load_of lay49 d K
theorem st50 {E : Env} {φ : St} {κ : St → Prop} (ty : TypeId) (pos : String) (after : Array Edge) (g : Option (Nat × Bool)) (a x : Operand) : stepD Tryd.prog E ⟨none, .store 50 a x, ty, pos, after, g⟩ φ κ = withO (ev E.G φ.fr a) fun da => withO (ev E.G φ.fr x) fun dx => storeD E φ 1 da dx κ := sD_store lay50 ty pos after g a x
theorem ld50 (S : List (Nat × O)) (d : D) (K : D → Prop) : loadN Tryd.prog S 50 d K = behind S d fun cs => loadD false 1 cs K := load_of lay50 d K
theorem st51 {E : Env} {φ : St} {κ : St → Prop} (ty : TypeId) (pos : String) (after : Array Edge) (g : Option (Nat × Bool)) (a x : Operand) : stepD Tryd.prog E ⟨none, .store 51 a x, ty, pos, after, g⟩ φ κ = withO (ev E.G φ.fr a) fun da => withO (ev E.G φ.fr x) fun dx => storeD E φ 6 da dx κ := sD_store lay51 ty pos after g a x
theorem ld51 (S : List (Nat × O)) (d : D) (K : D → Prop) : loadN Tryd.prog S 51 d K = behind S d fun cs => loadD true 6 cs K := load_of lay51 d K
theorem st53 {E : Env} {φ : St} {κ : St → Prop} (ty : TypeId) (pos : String) (after : Array Edge) (g : Option (Nat × Bool)) (a x : Operand) : stepD Tryd.prog E ⟨none, .store 53 a x, ty, pos, after, g⟩ φ κ = withO (ev E.G φ.fr a) fun da => withO (ev E.G φ.fr x) fun dx => storeD E φ 1 da dx κ := sD_store lay53 ty pos after g a x
theorem ld53 (S : List (Nat × O)) (d : D) (K : D → Prop) : loadN Tryd.prog S 53 d K = behind S d fun cs => loadD false 1 cs K := load_of lay53 d K
theorem st54 {E : Env} {φ : St} {κ : St → Prop} (ty : TypeId) (pos : String) (after : Array Edge) (g : Option (Nat × Bool)) (a x : Operand) : stepD Tryd.prog E ⟨none, .store 54 a x, ty, pos, after, g⟩ φ κ = withO (ev E.G φ.fr a) fun da => withO (ev E.G φ.fr x) fun dx => storeD E φ 1 da dx κ := sD_store lay54 ty pos after g a x
theorem ld54 (S : List (Nat × O)) (d : D) (K : D → Prop) : loadN Tryd.prog S 54 d K = behind S d fun cs => loadD false 1 cs K := load_of lay54 d K
theorem st55 {E : Env} {φ : St} {κ : St → Prop} (ty : TypeId) (pos : String) (after : Array Edge) (g : Option (Nat × Bool)) (a x : Operand) : stepD Tryd.prog E ⟨none, .store 55 a x, ty, pos, after, g⟩ φ κ = withO (ev E.G φ.fr a) fun da => withO (ev E.G φ.fr x) fun dx => storeD E φ 1 da dx κ := sD_store lay55 ty pos after g a x
theorem ld55 (S : List (Nat × O)) (d : D) (K : D → Prop) : loadN Tryd.prog S 55 d K = behind S d fun cs => loadD false 1 cs K := load_of lay55 d K
theorem st56 {E : Env} {φ : St} {κ : St → Prop} (ty : TypeId) (pos : String) (after : Array Edge) (g : Option (Nat × Bool)) (a x : Operand) : stepD Tryd.prog E ⟨none, .store 56 a x, ty, pos, after, g⟩ φ κ = withO (ev E.G φ.fr a) fun da => withO (ev E.G φ.fr x) fun dx => storeD E φ 1 da dx κ := sD_store lay56 ty pos after g a x
theorem ld56 (S : List (Nat × O)) (d : D) (K : D → Prop) : loadN Tryd.prog S 56 d K = behind S d fun cs => loadD false 1 cs K := load_of lay56 d K
theorem st57 {E : Env} {φ : St} {κ : St → Prop} (ty : TypeId) (pos : String) (after : Array Edge) (g : Option (Nat × Bool)) (a x : Operand) : stepD Tryd.prog E ⟨none, .store 57 a x, ty, pos, after, g⟩ φ κ = withO (ev E.G φ.fr a) fun da => withO (ev E.G φ.fr x) fun dx => storeD E φ 1 da dx κ := sD_store lay57 ty pos after g a x
theorem ld57 (S : List (Nat × O)) (d : D) (K : D → Prop) : loadN Tryd.prog S 57 d K = behind S d fun cs => loadD false 1 cs K := load_of lay57 d K
theorem st58 {E : Env} {φ : St} {κ : St → Prop} (ty : TypeId) (pos : String) (after : Array Edge) (g : Option (Nat × Bool)) (a x : Operand) : stepD Tryd.prog E ⟨none, .store 58 a x, ty, pos, after, g⟩ φ κ = withO (ev E.G φ.fr a) fun da => withO (ev E.G φ.fr x) fun dx => storeD E φ 256 da dx κ := sD_store lay58 ty pos after g a x
theorem ld58 (S : List (Nat × O)) (d : D) (K : D → Prop) : loadN Tryd.prog S 58 d K = behind S d fun cs => loadD true 256 cs K := load_of lay58 d K
theorem st59 {E : Env} {φ : St} {κ : St → Prop} (ty : TypeId) (pos : String) (after : Array Edge) (g : Option (Nat × Bool)) (a x : Operand) : stepD Tryd.prog E ⟨none, .store 59 a x, ty, pos, after, g⟩ φ κ = withO (ev E.G φ.fr a) fun da => withO (ev E.G φ.fr x) fun dx => storeD E φ 256 da dx κ := sD_store lay59 ty pos after g a x
theorem ld59 (S : List (Nat × O)) (d : D) (K : D → Prop) : loadN Tryd.prog S 59 d K = behind S d fun cs => loadD true 256 cs K := load_of lay59 d K
theorem st61 {E : Env} {φ : St} {κ : St → Prop} (ty : TypeId) (pos : String) (after : Array Edge) (g : Option (Nat × Bool)) (a x : Operand) : stepD Tryd.prog E ⟨none, .store 61 a x, ty, pos, after, g⟩ φ κ = withO (ev E.G φ.fr a) fun da => withO (ev E.G φ.fr x) fun dx => storeD E φ 1 da dx κ := sD_store lay61 ty pos after g a x
theorem ld61 (S : List (Nat × O)) (d : D) (K : D → Prop) : loadN Tryd.prog S 61 d K = behind S d fun cs => loadD false 1 cs K := load_of lay61 d K
theorem st62 {E : Env} {φ : St} {κ : St → Prop} (ty : TypeId) (pos : String) (after : Array Edge) (g : Option (Nat × Bool)) (a x : Operand) : stepD Tryd.prog E ⟨none, .store 62 a x, ty, pos, after, g⟩ φ κ = withO (ev E.G φ.fr a) fun da => withO (ev E.G φ.fr x) fun dx => storeD E φ 1 da dx κ := sD_store lay62 ty pos after g a x
theorem ld62 (S : List (Nat × O)) (d : D) (K : D → Prop) : loadN Tryd.prog S 62 d K = behind S d fun cs => loadD false 1 cs K := load_of lay62 d K
theorem st63 {E : Env} {φ : St} {κ : St → Prop} (ty : TypeId) (pos : String) (after : Array Edge) (g : Option (Nat × Bool)) (a x : Operand) : stepD Tryd.prog E ⟨none, .store 63 a x, ty, pos, after, g⟩ φ κ = withO (ev E.G φ.fr a) fun da => withO (ev E.G φ.fr x) fun dx => storeD E φ 1 da dx κ := sD_store lay63 ty pos after g a x
theorem ld63 (S : List (Nat × O)) (d : D) (K : D → Prop) : loadN Tryd.prog S 63 d K = behind S d fun cs => loadD false 1 cs K := load_of lay63 d K
theorem st64 {E : Env} {φ : St} {κ : St → Prop} (ty : TypeId) (pos : String) (after : Array Edge) (g : Option (Nat × Bool)) (a x : Operand) : stepD Tryd.prog E ⟨none, .store 64 a x, ty, pos, after, g⟩ φ κ = withO (ev E.G φ.fr a) fun da => withO (ev E.G φ.fr x) fun dx => storeD E φ 1 da dx κ := sD_store lay64 ty pos after g a x
theorem ld64 (S : List (Nat × O)) (d : D) (K : D → Prop) : loadN Tryd.prog S 64 d K = behind S d fun cs => loadD false 1 cs K := load_of lay64 d K
theorem st65 {E : Env} {φ : St} {κ : St → Prop} (ty : TypeId) (pos : String) (after : Array Edge) (g : Option (Nat × Bool)) (a x : Operand) : stepD Tryd.prog E ⟨none, .store 65 a x, ty, pos, after, g⟩ φ κ = withO (ev E.G φ.fr a) fun da => withO (ev E.G φ.fr x) fun dx => storeD E φ 1 da dx κ := sD_store lay65 ty pos after g a x
theorem ld65 (S : List (Nat × O)) (d : D) (K : D → Prop) : loadN Tryd.prog S 65 d K = behind S d fun cs => loadD false 1 cs K := load_of lay65 d K
theorem st66 {E : Env} {φ : St} {κ : St → Prop} (ty : TypeId) (pos : String) (after : Array Edge) (g : Option (Nat × Bool)) (a x : Operand) : stepD Tryd.prog E ⟨none, .store 66 a x, ty, pos, after, g⟩ φ κ = withO (ev E.G φ.fr a) fun da => withO (ev E.G φ.fr x) fun dx => storeD E φ 1 da dx κ := sD_store lay66 ty pos after g a x
theorem ld66 (S : List (Nat × O)) (d : D) (K : D → Prop) : loadN Tryd.prog S 66 d K = behind S d fun cs => loadD false 1 cs K := load_of lay66 d K
theorem st67 {E : Env} {φ : St} {κ : St → Prop} (ty : TypeId) (pos : String) (after : Array Edge) (g : Option (Nat × Bool)) (a x : Operand) : stepD Tryd.prog E ⟨none, .store 67 a x, ty, pos, after, g⟩ φ κ = withO (ev E.G φ.fr a) fun da => withO (ev E.G φ.fr x) fun dx => storeD E φ 1 da dx κ := sD_store lay67 ty pos after g a x
theorem ld67 (S : List (Nat × O)) (d : D) (K : D → Prop) : loadN Tryd.prog S 67 d K = behind S d fun cs => loadD false 1 cs K := load_of lay67 d K
theorem st68 {E : Env} {φ : St} {κ : St → Prop} (ty : TypeId) (pos : String) (after : Array Edge) (g : Option (Nat × Bool)) (a x : Operand) : stepD Tryd.prog E ⟨none, .store 68 a x, ty, pos, after, g⟩ φ κ = withO (ev E.G φ.fr a) fun da => withO (ev E.G φ.fr x) fun dx => storeD E φ 1 da dx κ := sD_store lay68 ty pos after g a x
theorem ld68 (S : List (Nat × O)) (d : D) (K : D → Prop) : loadN Tryd.prog S 68 d K = behind S d fun cs => loadD false 1 cs K := load_of lay68 d K
theorem st69 {E : Env} {φ : St} {κ : St → Prop} (ty : TypeId) (pos : String) (after : Array Edge) (g : Option (Nat × Bool)) (a x : Operand) : stepD Tryd.prog E ⟨none, .store 69 a x, ty, pos, after, g⟩ φ κ = withO (ev E.G φ.fr a) fun da => withO (ev E.G φ.fr x) fun dx => storeD E φ 4 da dx κ := sD_store lay69 ty pos after g a x
theorem ld69 (S : List (Nat × O)) (d : D) (K : D → Prop) : loadN Tryd.prog S 69 d K = behind S d fun cs => loadD true 4 cs K := load_of lay69 d K
theorem fa69_0 (cs : List D) (K : D → Prop) : fieldAddrN Tryd.prog 69 (.rp cs) 0 K = K (.rp (cs.drop 0)) := fieldAddr_rp fld69_0 (by decide) cs K
theorem far69_0 (g b o : Nat) (K : D → Prop) : fieldAddrN Tryd.prog 69 (.ref g b o) 0 K = K (.ref g b (o + 0)) := fieldAddr_ref fld69_0 (by decide) g b o K
theorem fa69_1 (cs : List D) (K : D → Prop) : fieldAddrN Tryd.prog 69 (.rp cs) 1 K = K (.rp (cs.drop 1)) := fieldAddr_rp fld69_1 (by decide) cs K
theorem far69_1 (g b o : Nat) (K : D → Prop) : fieldAddrN Tryd.prog 69 (.ref g b o) 1 K = K (.ref g b (o + 1)) := fieldAddr_ref fld69_1 (by decide) g b o K
theorem fa69_2 (cs : List D) (K : D → Prop) : fieldAddrN Tryd.prog 69 (.rp cs) 2 K = K (.rp (cs.drop 2)) := fieldAddr_rp fld69_2 (by decide) cs K
theorem far69_2 (g b o : Nat) (K : D → Prop) : fieldAddrN Tryd.prog 69 (.ref g b o) 2 K = K (.ref g b (o + 2)) := fieldAddr_ref fld69_2 (by decide) g b o K
theorem fa69_3 (cs : List D) (K : D → Prop) : fieldAddrN Tryd.prog 69 (.rp cs) 3 K = K (.rp (cs.drop 3)) := fieldAddr_rp fld69_3 (by decide) cs K
theorem far69_3 (g b o : Nat) (K : D → Prop) : fieldAddrN Tryd.prog 69 (.ref g b o) 3 K = K (.ref g b (o + 3)) := fieldAddr_ref fld69_3 (by decide) g b o K
theorem st70 {E : Env} {φ : St} {κ : St → Prop} (ty : TypeId) (pos : String) (after : Array Edge) (g : Option (Nat × Bool)) (a x : Operand) : stepD Tryd.prog E ⟨none, .store 70 a x, ty, pos, after, g⟩ φ κ = withO (ev E.G φ.fr a) fun da => withO (ev E.G φ.fr x) fun dx => storeD E φ 4 da dx κ := sD_store lay70 ty pos after g a x
theorem ld70 (S : List (Nat × O)) (d : D) (K : D → Prop) : loadN Tryd.prog S 70 d K = behind S d fun cs => loadD true 4 cs K := load_of lay70 d K
theorem fa70_0 (cs : List D) (K : D → Prop) : fieldAddrN Tryd.prog 70 (.rp cs) 0 K = K (.rp (cs.drop 0)) := fieldAddr_rp fld70_0 (by decide) cs K
theorem far70_0 (g b o : Nat) (K : D → Prop) : fieldAddrN Tryd.prog 70 (.ref g b o) 0 K = K (.ref g b (o + 0)) := fieldAddr_ref fld70_0 (by decide) g b o K
theorem fa70_1 (cs : List D) (K : D → Prop) : fieldAddrN Tryd.prog 70 (.rp cs) 1 K = K (.rp (cs.drop 1)) := fieldAddr_rp fld70_1 (by decide) cs K
theorem far70_1 (g b o : Nat) (K : D → Prop) : fieldAddrN Tryd.prog 70 (.ref g b o) 1 K = K (.ref g b (o + 1)) := fieldAddr_ref fld70_1 (by decide) g b o K
theorem fa70_2 (cs : List D) (K : D → Prop) : fieldAddrN Tryd.prog 70 (.rp cs) 2 K = K (.rp (cs.drop 2)) := fieldAddr_rp fld70_2 (by decide) cs K
theorem far70_2 (g b o : Nat) (K : D → Prop) : fieldAddrN Tryd.prog 70 (.ref g b o) 2 K = K (.ref g b (o + 2)) := fieldAddr_ref fld70_2 (by decide) g b o K
theorem fa70_3 (cs : List D) (K : D → Prop) : fieldAddrN Tryd.prog 70 (.rp cs) 3 K = K (.rp (cs.drop 3)) := fieldAddr_rp fld70_3 (by decide) cs K
theorem far70_3 (g b o : Nat) (K : D → Prop) : fieldAddrN Tryd.prog 70 (.ref g b o) 3 K = K (.ref g b (o + 3)) := fieldAddr_ref fld70_3 (by decide) g b o K
theorem st74 {E : Env} {φ : St} {κ : St → Prop} (ty : TypeId) (pos : String) (after : Array Edge) (g : Option (Nat × Bool)) (a x : Operand) : stepD Tryd.prog E ⟨none, .store 74 a x, ty, pos, after, g⟩ φ κ = withO (ev E.G φ.fr a) fun da => withO (ev E.G φ.fr x) fun dx => storeD E φ 1 da dx κ := sD_store lay74 ty pos after g a x
theorem ld74 (S : List (Nat × O)) (d : D) (K : D → Prop) : loadN Tryd.prog S 74 d K = behind S d fun cs => loadD false 1 cs K := load_of lay74 d K
theorem st75 {E : Env} {φ : St} {κ : St → Prop} (ty : TypeId) (pos : String) (after : Array Edge) (g : Option (Nat × Bool)) (a x : Operand) : stepD Tryd.prog E ⟨none, .store 75 a x, ty, pos, after, g⟩ φ κ = withO (ev E.G φ.fr a) fun da => withO (ev E.G φ.fr x) fun dx => storeD E φ 1 da dx κ := sD_store lay75 ty pos after g a x
theorem ld75 (S : List (Nat × O)) (d : D) (K : D → Prop) : loadN Tryd.prog S 75 d K = behind S d fun cs => loadD false 1 cs K := load_of lay75 d K
theorem st76 {E : Env} {φ : St} {κ : St → Prop} (ty : TypeId) (pos : String) (after : Array Edge) (g : Option (Nat × Bool)) (a x : Operand) : stepD Tryd.prog E ⟨none, .store 76 a x, ty, pos, after, g⟩ φ κ = withO (ev E.G φ.fr a) fun da => withO (ev E.G φ.fr x) fun dx => storeD E φ 1 da dx κ := sD_store lay76 ty pos after g a x
theorem ld76 (S : List (Nat × O)) (d : D) (K : D → Prop) : loadN Tryd.prog S 76 d K = behind S d fun cs => loadD false 1 cs K := load_of lay76 d K
theorem st77 {E : Env} {φ : St} {κ : St → Prop} (ty : TypeId) (pos : String) (after : Array Edge) (g : Option (Nat × Bool)) (a x : Operand) : stepD Tryd.prog E ⟨none, .store 77 a x, ty, pos, after, g⟩ φ κ = withO (ev E.G φ.fr a) fun da => withO (ev E.G φ.fr x) fun dx => storeD E φ 1 da dx κ := sD_store lay77 ty pos after g a x
theorem ld77 (S : List (Nat × O)) (d : D) (K : D → Prop) : loadN Tryd.prog S 77 d K = behind S d fun cs => loadD false 1 cs K := load_of lay77 d K
theorem st78 {E : Env} {φ : St} {κ : St → Prop} (ty : TypeId) (pos : String) (after : Array Edge) (g : Option (Nat × Bool)) (a x : Operand) : stepD Tryd.prog E ⟨none, .store 78 a x, ty, pos, after, g⟩ φ κ = withO (ev E.G φ.fr a) fun da => withO (ev E.G φ.fr x) fun dx => storeD E φ 1 da dx κ := sD_store lay78 ty pos after g a x
theorem ld78 (S : List (Nat × O)) (d : D) (K : D → Prop) : loadN Tryd.prog S 78 d K = behind S d fun cs => loadD false 1 cs K := load_of lay78 d K
theorem st79 {E : Env} {φ : St} {κ : St → Prop} (ty : TypeId) (pos : String) (after : Array Edge) (g : Option (Nat × Bool)) (a x : Operand) : stepD Tryd.prog E ⟨none, .store 79 a x, ty, pos, after, g⟩ φ κ = withO (ev E.G φ.fr a) fun da => withO (ev E.G φ.fr x) fun dx => storeD E φ 1 da dx κ := sD_store lay79 ty pos after g a x
theorem ld79 (S : List (Nat × O)) (d : D) (K : D → Prop) : loadN Tryd.prog S 79 d K = behind S d fun cs => loadD false 1 cs K := load_of lay79 d K
theorem st80 {E : Env} {φ : St} {κ : St → Prop} (ty : TypeId) (pos : String) (after : Array Edge) (g : Option (Nat × Bool)) (a x : Operand) : stepD Tryd.prog E ⟨none, .store 80 a x, ty, pos, after, g⟩ φ κ = withO (ev E.G φ.fr a) fun da => withO (ev E.G φ.fr x) fun dx => storeD E φ 1 da dx κ := sD_store lay80 ty pos after g a x
theorem ld80 (S : List (Nat × O)) (d : D) (K : D → Prop) : loadN Tryd.prog S 80 d K = behind S d fun cs => loadD false 1 cs K := load_of lay80 d K
theorem st81 {E : Env} {φ : St} {κ : St → Prop} (ty : TypeId) (pos : String) (after : Array Edge) (g : Option (Nat × Bool)) (a x : Operand) : stepD Tryd.prog E ⟨none, .store 81 a x, ty, pos, after, g⟩ φ κ = withO (ev E.G φ.fr a) fun da => withO (ev E.G φ.fr x) fun dx => storeD E φ 1 da dx κ := sD_store lay81 ty pos after g a x
theorem ld81 (S : List (Nat × O)) (d : D) (K : D → Prop) : loadN Tryd.prog S 81 d K = behind S d fun cs => loadD false 1 cs K := load_of lay81 d K
theorem st82 {E : Env} {φ : St} {κ : St → Prop} (ty : TypeId) (pos : String) (after : Array Edge) (g : Option (Nat × Bool)) (a x : Operand) : stepD Tryd.prog E ⟨none, .store 82 a x, ty, pos, after, g⟩ φ κ = withO (ev E.G φ.fr a) fun da => withO (ev E.G φ.fr x) fun dx => storeD E φ 11 da dx κ := sD_store lay82 ty pos after g a x
theorem ld82 (S : List (Nat × O)) (d : D) (K : D → Prop) : loadN Tryd.prog S 82 d K = behind S d fun cs => loadD true 11 cs K := load_of lay82 d K
theorem fa82_0 (cs : List D) (K : D → Prop) : fieldAddrN Tryd.prog 82 (.rp cs) 0 K = K (.rp (cs.drop 0)) := fieldAddr_rp fld82_0 (by decide) cs K
theorem far82_0 (g b o : Nat) (K : D → Prop) : fieldAddrN Tryd.prog 82 (.ref g b o) 0 K = K (.ref g b (o + 0)) := fieldAddr_ref fld82_0 (by decide) g b o K
theorem fa82_1 (cs : List D) (K : D → Prop) : fieldAddrN Tryd.prog 82 (.rp cs) 1 K = K (.rp (cs.drop 1)) := fieldAddr_rp fld82_1 (by decide) cs K
theorem far82_1 (g b o : Nat) (K : D → Prop) : fieldAddrN Tryd.prog 82 (.ref g b o) 1 K = K (.ref g b (o + 1)) := fieldAddr_ref fld82_1 (by decide) g b o K
theorem fa82_2 (cs : List D) (K : D → Prop) : fieldAddrN Tryd.prog 82 (.rp cs) 2 K = K (.rp (cs.drop 2)) := fieldAddr_rp fld82_2 (by decide) cs K
theorem far82_2 (g b o : Nat) (K : D → Prop) : fieldAddrN Tryd.prog 82 (.ref g b o) 2 K = K (.ref g b (o + 2)) := fieldAddr_ref fld82_2 (by decide) g b o K
theorem fa82_3 (cs : List D) (K : D → Prop) : fieldAddrN Tryd.prog 82 (.rp cs) 3 K = K (.rp (cs.drop 3)) := fieldAddr_rp fld82_3 (by decide) cs K
theorem far82_3 (g b o : Nat) (K : D → Prop) : fieldAddrN Tryd.prog 82 (.ref g b o) 3 K = K (.ref g b (o + 3)) := fieldAddr_ref fld82_3 (by decide) g b o K
theorem fa82_4 (cs : List D) (K : D → Prop) : fieldAddrN Tryd.prog 82 (.rp cs) 4 K = K (.rp (cs.drop 4)) := fieldAddr_rp fld82_4 (by decide) cs K
theorem far82_4 (g b o : Nat) (K : D → Prop) : fieldAddrN Tryd.prog 82 (.ref g b o) 4 K = K (.ref g b (o + 4)) := fieldAddr_ref fld82_4 (by decide) g b o K
theorem fa82_5 (cs : List D) (K : D → Prop) : fieldAddrN Tryd.prog 82 (.rp cs) 5 K = K (.rp (cs.drop 5)) := fieldAddr_rp fld82_5 (by decide) cs K
theorem far82_5 (g b o : Nat) (K : D → Prop) : fieldAddrN Tryd.prog 82 (.ref g b o) 5 K = K (.ref g b (o + 5)) := fieldAddr_ref fld82_5 (by decide) g b o K
theorem fa82_6 (cs : List D) (K : D → Prop) : fieldAddrN Tryd.prog 82 (.rp cs) 6 K = K (.rp (cs.drop 6)) := fieldAddr_rp fld82_6 (by decide) cs K
theorem far82_6 (g b o : Nat) (K : D → Prop) : fieldAddrN Tryd.prog 82 (.ref g b o) 6 K = K (.ref g b (o + 6)) := fieldAddr_ref fld82_6 (by decide) g b o K
theorem fa82_7 (cs : List D) (K : D → Prop) : fieldAddrN Tryd.prog 82 (.rp cs) 7 K = K (.rp (cs.drop 7)) := fieldAddr_rp fld82_7 (by decide) cs K
theorem far82_7 (g b o : Nat) (K : D → Prop) : fieldAddrN Tryd.prog 82 (.ref g b o) 7 K = K (.ref g b (o + 7)) := fieldAddr_ref fld82_7 (by decide) g b o K
theorem fa82_8 (cs : List D) (K : D → Prop) : fieldAddrN Tryd.prog 82 (.rp cs) 8 K = K (.rp (cs.drop 8)) := fieldAddr_rp fld82_8 (by decide) cs K
theorem far82_8 (g b o : Nat) (K : D → Prop) : fieldAddrN Tryd.prog 82 (.ref g b o) 8 K = K (.ref g b (o + 8)) := fieldAddr_ref fld82_8 (by decide) g b o K
theorem fa82_9 (cs : List D) (K : D → Prop) : fieldAddrN Tryd.prog 82 (.rp cs) 9 K = K (.rp (cs.drop 9)) := fieldAddr_rp fld82_9 (by decide) cs K
theorem far82_9 (g b o : Nat) (K : D → Prop) : fieldAddrN Tryd.prog 82 (.ref g b o) 9 K = K (.ref g b (o + 9)) := fieldAddr_ref fld82_9 (by decide) g b o K
theorem fa82_10 (cs : List D) (K : D → Prop) : fieldAddrN Tryd.prog 82 (.rp cs) 10 K = K (.rp (cs.drop 10)) := fieldAddr_rp fld82_10 (by decide) cs K
theorem far82_10 (g b o : Nat) (K : D → Prop) : fieldAddrN Tryd.prog 82 (.ref g b o) 10 K = K (.ref g b (o + 10)) := fieldAddr_ref fld82_10 (by decide) g b o K
theorem st83 {E : Env} {φ : St} {κ : St → Prop} (ty : TypeId) (pos : String) (after : Array Edge) (g : Option (Nat × Bool)) (a x : Operand) : stepD Tryd.prog E ⟨none, .store 83 a x, ty, pos, after, g⟩ φ κ = withO (ev E.G φ.fr a) fun da => withO (ev E.G φ.fr x) fun dx => storeD E φ 11 da dx κ := sD_store lay83 ty pos after g a x
theorem ld83 (S : List (Nat × O)) (d : D) (K : D → Prop) : loadN Tryd.prog S 83 d K = behind S d fun cs => loadD true 11 cs K := load_of lay83 d K
theorem fa83_0 (cs : List D) (K : D → Prop) : fieldAddrN Tryd.prog 83 (.rp cs) 0 K = K (.rp (cs.drop 0)) := fieldAddr_rp fld83_0 (by decide) cs K
theorem far83_0 (g b o : Nat) (K : D → Prop) : fieldAddrN Tryd.prog 83 (.ref g b o) 0 K = K (.ref g b (o + 0)) := fieldAddr_ref fld83_0 (by decide) g b o K
theorem fa83_1 (cs : List D) (K : D → Prop) : fieldAddrN Tryd.prog 83 (.rp cs) 1 K = K (.rp (cs.drop 1)) := fieldAddr_rp fld83_1 (by decide) cs K
theorem far83_1 (g b o : Nat) (K : D → Prop) : fieldAddrN Tryd.prog 83 (.ref g b o) 1 K = K (.ref g b (o + 1)) := fieldAddr_ref fld83_1 (by decide) g b o K
theorem fa83_2 (cs : List D) (K : D → Prop) : fieldAddrN Tryd.prog 83 (.rp cs) 2 K = K (.rp (cs.drop 2)) := fieldAddr_rp fld83_2 (by decide) cs K
theorem far83_2 (g b o : Nat) (K : D → Prop) : fieldAddrN Tryd.prog 83 (.ref g b o) 2 K = K (.ref g b (o + 2)) := fieldAddr_ref fld83_2 (by decide) g b o K
theorem fa83_3 (cs : List D) (K : D → Prop) : fieldAddrN Tryd.prog 83 (.rp cs) 3 K = K (.rp (cs.drop 3)) := fieldAddr_rp fld83_3 (by decide) cs K
theorem far83_3 (g b o : Nat) (K : D → Prop) : fieldAddrN Tryd.prog 83 (.ref g b o) 3 K = K (.ref g b (o + 3)) := fieldAddr_ref fld83_3 (by decide) g b o K
theorem fa83_4 (cs : List D) (K : D → Prop) : fieldAddrN Tryd.prog 83 (.rp cs) 4 K = K (.rp (cs.drop 4)) := fieldAddr_rp fld83_4 (by decide) cs K
theorem far83_4 (g b o : Nat) (K : D → Prop) : fieldAddrN Tryd.prog 83 (.ref g b o) 4 K = K (.ref g b (o + 4)) := fieldAddr_ref fld83_4 (by decide) g b o K
theorem fa83_5 (cs : List D) (K : D → Prop) : fieldAddrN Tryd.prog 83 (.rp cs) 5 K = K (.rp (cs.drop 5)) := fieldAddr_rp fld83_5 (by decide) cs K
theorem far83_5 (g b o : Nat) (K : D → Prop) : fieldAddrN Tryd.prog 83 (.ref g b o) 5 K = K (.ref g b (o + 5)) := fieldAddr_ref fld83_5 (by decide) g b o K
theorem fa83_6 (cs : List D) (K : D → Prop) : fieldAddrN Tryd.prog 83 (.rp cs) 6 K = K (.rp (cs.drop 6)) := fieldAddr_rp fld83_6 (by decide) cs K
theorem far83_6 (g b o : Nat) (K : D → Prop) : fieldAddrN Tryd.prog 83 (.ref g b o) 6 K = K (.ref g b (o + 6)) := fieldAddr_ref fld83_6 (by decide) g b o K
theorem fa83_7 (cs : List D) (K : D → Prop) : fieldAddrN Tryd.prog 83 (.rp cs) 7 K = K (.rp (cs.drop 7)) := fieldAddr_rp fld83_7 (by decide) cs K
theorem far83_7 (g b o : Nat) (K : D → Prop) : fieldAddrN Tryd.prog 83 (.ref g b o) 7 K = K (.ref g b (o + 7)) := fieldAddr_ref fld83_7 (by decide) g b o K
theorem fa83_8 (cs : List D) (K : D → Prop) : fieldAddrN Tryd.prog 83 (.rp cs) 8 K = K (.rp (cs.drop 8)) := fieldAddr_rp fld83_8 (by decide) cs K
theorem far83_8 (g b o : Nat) (K : D → Prop) : fieldAddrN Tryd.prog 83 (.ref g b o) 8 K = K (.ref g b (o + 8)) := fieldAddr_ref fld83_8 (by decide) g b o K
theorem fa83_9 (cs : List D) (K : D → Prop) : fieldAddrN Tryd.prog 83 (.rp cs) 9 K = K (.rp (cs.drop 9)) := fieldAddr_rp fld83_9 (by decide) cs K
theorem far83_9 (g b o : Nat) (K : D → Prop) : fieldAddrN Tryd.prog 83 (.ref g b o) 9 K = K (.ref g b (o + 9)) := fieldAddr_ref fld83_9 (by decide) g b o K
theorem fa83_10 (cs : List D) (K : D → Prop) : fieldAddrN Tryd.prog 83 (.rp cs) 10 K = K (.rp (cs.drop 10)) := fieldAddr_rp fld83_10 (by decide) cs K
theorem far83_10 (g b o : Nat) (K : D → Prop) : fieldAddrN Tryd.prog 83 (.ref g b o) 10 K = K (.ref g b (o + 10)) := fieldAddr_ref fld83_10 (by decide) g b o K
theorem st84 {E : Env} {φ : St} {κ : St → Prop} (ty : TypeId) (pos : String) (after : Array Edge) (g : Option (Nat × Bool)) (a x : Operand) : stepD Tryd.prog E ⟨none, .store 84 a x, ty, pos, after, g⟩ φ κ = withO (ev E.G φ.fr a) fun da => withO (ev E.G φ.fr x) fun dx => storeD E φ 1 da dx κ := sD_store lay84 ty pos after g a x
theorem ld84 (S : List (Nat × O)) (d : D) (K : D → Prop) : loadN Tryd.prog S 84 d K = behind S d fun cs => loadD false 1 cs K := load_of lay84 d K
theorem bd7 (is : List Nat) (ds zs : List D) (K : D → Prop) : buildD Tryd.prog 7 is ds zs K = fillD (placeOf Tryd.prog 7) (is.zip ds) zs fun cs => K (.agg cs) := buildD_struct Tryd.underlying7 (by kernel_rfl) is ds zs
theorem pl7_0 : placeOf Tryd.prog 7 0 = some (0, 1) := placeOf_fld fld7_0
theorem pl7_1 : placeOf Tryd.prog 7 1 = some (1, 1) := placeOf_fld fld7_1
theorem pl7_2 : placeOf Tryd.prog 7 2 = some (2, 1) := placeOf_fld fld7_2
theorem pl7_3 : placeOf Tryd.prog 7 3 = some (3, 1) := placeOf_fld fld7_3
theorem bd8 (is : List Nat) (ds zs : List D) (K : D → Prop) : buildD Tryd.prog 8 is ds zs K = fillD (placeOf Tryd.prog 8) (is.zip ds) zs fun cs => K (.agg cs) := buildD_struct Tryd.underlying8 (by kernel_rfl) is ds zs
theorem pl8_0 : placeOf Tryd.prog 8 0 = some (0, 1) := placeOf_fld fld8_0
theorem pl8_1 : placeOf Tryd.prog 8 1 = some (1, 1) := placeOf_fld fld8_1
theorem pl8_2 : placeOf Tryd.prog 8 2 = some (2, 1) := placeOf_fld fld8_2
theorem pl8_3 : placeOf Tryd.prog 8 3 = some (3, 1) := placeOf_fld fld8_3
theorem ix9 (l : List UInt8) (ik : IntKind) (i : Int) (K : D → Prop) : indexN Tryd.prog 9 (.str l) (.int ik i) K = (0 ≤ i ∧ i < l.length ∧ K (.int .u8 (l.getD i.toNat 0).toNat)) := indexN_str Tryd.underlying9 l ik i
theorem ix10 (l : List UInt8) (ik : IntKind) (i : Int) (K : D → Prop) : indexN Tryd.prog 10 (.str l) (.int ik i) K = (0 ≤ i ∧ i < l.length ∧ K (.int .u8 (l.getD i.toNat 0).toNat)) := indexN_str Tryd.underlying10 l ik i
theorem ix11 (l : List UInt8) (ik : IntKind) (i : Int) (K : D → Prop) : indexN Tryd.prog 11 (.str l) (.int ik i) K = (0 ≤ i ∧ i < l.length ∧ K (.int .u8 (l.getD i.toNat 0).toNat)) := indexN_str Tryd.underlying11 l ik i
theorem bd13 (is : List Nat) (ds zs : List D) (K : D → Prop) : buildD Tryd.prog 13 is ds zs K = fillD (placeOf Tryd.prog 13) (is.zip ds) zs fun cs => K (.agg cs) := buildD_struct Tryd.underlying13 (by kernel_rfl) is ds zs
theorem pl13_0 : placeOf Tryd.prog 13 0 = some (0, 1) := placeOf_fld fld13_0
theorem pl13_1 : placeOf Tryd.prog 13 1 = some (1, 1) := placeOf_fld fld13_1
theorem bd14 (is : List Nat) (ds zs : List D) (K : D → Prop) : buildD Tryd.prog 14 is ds zs K = fillD (placeOf Tryd.prog 14) (is.zip ds) zs fun cs => K (.agg cs) := buildD_struct Tryd.underlying14 (by kernel_rfl) is ds zs
theorem pl14_0 : placeOf Tryd.prog 14 0 = some (0, 1) := placeOf_fld fld14_0
theorem pl14_1 : placeOf Tryd.prog 14 1 = some (1, 1) := placeOf_fld fld14_1
theorem bd18 (is : List Nat) (ds zs : List D) (K : D → Prop) : buildD Tryd.prog 18 is ds zs K = fillD (placeOf Tryd.prog 18) (is.zip ds) zs fun cs => K (.agg cs) := buildD_struct Tryd.underlying18 (by kernel_rfl) is ds zs
theorem pl18_0 : placeOf Tryd.prog 18 0 = some (0, 1) := placeOf_fld fld18_0
theorem bd19 (is : List Nat) (ds zs : List D) (K : D → Prop) : buildD Tryd.prog 19 is ds zs K = fillD (placeOf Tryd.prog 19) (is.zip ds) zs fun cs => K (.agg cs) := buildD_struct Tryd.underlying19 (by kernel_rfl) is ds zs
theorem pl19_0 : placeOf Tryd.prog 19 0 = some (0, 1) := placeOf_fld fld19_0
theorem bs22 (len : Nat) (is : List Nat) (ds : List D) (K : D → Prop) : buildSl Tryd.prog 22 len is ds K = (ds.length = len ∧ len * 5 ≤ 16777216 ∧ len ≤ 16777216 ∧ is = List.range len ∧ allCells 5 ds ∧ K (.sl true 5 (ds.map D.cells))) := buildSl_of el22 (by rw [zero37]; rfl) len is ds
theorem io22 (S : List (Nat × O)) (g : Nat) (A : Option Addr) (m cap : Nat) (ik : IntKind) (i : Int) (K : D → Prop) : indexAddrN Tryd.prog S 22 (.own g A m cap) (.int ik i) K = (0 ≤ i ∧ i < m ∧ withO (Dw.look g S) fun o => match o with | O.row A' m' cap' _ k _ => A' = A ∧ m' = m ∧ cap' = cap ∧ k = 5 ∧ K (.ref g (A.getD default).block (i.toNat * k)) | _ => False) := indexAddr_own el22 g A m cap ik i
theorem ap22 {E : Env} {φ : St} {k : Nat} {x y : Operand} {ty : TypeId} {pos : String} {after : Array Edge} {gd : Option (Nat × Bool)} {κ : St → Prop} (h : k < φ.N ∧ withO (ev E.G φ.fr x) fun ds => withO (ev E.G φ.fr y) fun dx => appD E φ k 37 5 72 ds dx κ) : stepD Tryd.prog E ⟨some k, .call { callee := .builtin .append, args := #[x, y], argTypes := #[22, 22] }, ty, pos, after, gd⟩ φ κ := ap_own el22 lay37 zero37 (by decide) (by decide) h
theorem bs23 (len : Nat) (is : List Nat) (ds : List D) (K : D → Prop) : buildSl Tryd.prog 23 len is ds K = (ds.length = len ∧ len * 4 ≤ 16777216 ∧ len ≤ 16777216 ∧ is = List.range len ∧ allCells 4 ds ∧ K (.sl true 4 (ds.map D.cells))) := buildSl_of el23 (by rw [zero25]; rfl) len is ds
theorem io23 (S : List (Nat × O)) (g : Nat) (A : Option Addr) (m cap : Nat) (ik : IntKind) (i : Int) (K : D → Prop) : indexAddrN Tryd.prog S 23 (.own g A m cap) (.int ik i) K = (0 ≤ i ∧ i < m ∧ withO (Dw.look g S) fun o => match o with | O.row A' m' cap' _ k _ => A' = A ∧ m' = m ∧ cap' = cap ∧ k = 4 ∧ K (.ref g (A.getD default).block (i.toNat * k)) | _ => False) := indexAddr_own el23 g A m cap ik i
theorem ap23 {E : Env} {φ : St} {k : Nat} {x y : Operand} {ty : TypeId} {pos : String} {after : Array Edge} {gd : Option (Nat × Bool)} {κ : St → Prop} (h : k < φ.N ∧ withO (ev E.G φ.fr x) fun ds => withO (ev E.G φ.fr y) fun dx => appD E φ k 25 4 56 ds dx κ) : stepD Tryd.prog E ⟨some k, .call { callee := .builtin .append, args := #[x, y], argTypes := #[23, 23] }, ty, pos, after, gd⟩ φ κ := ap_own el23 lay25 zero25 (by decide) (by decide) h
theorem bd24 (is : List Nat) (ds zs : List D) (K : D → Prop) : buildD Tryd.prog 24 is ds zs K = fillD (placeOf Tryd.prog 24) (is.zip ds) zs fun cs => K (.agg cs) := buildD_struct Tryd.underlying24 (by kernel_rfl) is ds zs
theorem pl24_0 : placeOf Tryd.prog 24 0 = some (0, 1) := placeOf_fld fld24_0
theorem pl24_1 : placeOf Tryd.prog 24 1 = some (1, 1) := placeOf_fld fld24_1
theorem pl24_2 : placeOf Tryd.prog 24 2 = some (2, 1) := placeOf_fld fld24_2
theorem pl24_3 : placeOf Tryd.prog 24 3 = some (3, 1) := placeOf_fld fld24_3
theorem bd25 (is : List Nat) (ds zs : List D) (K : D → Prop) : buildD Tryd.prog 25 is ds zs K = fillD (placeOf Tryd.prog 25) (is.zip ds) zs fun cs => K (.agg cs) := buildD_struct Tryd.underlying25 (by kernel_rfl) is ds zs
theorem pl25_0 : placeOf Tryd.prog 25 0 = some (0, 1) := placeOf_fld fld25_0
theorem pl25_1 : placeOf Tryd.prog 25 1 = some (1, 1) := placeOf_fld fld25_1
theorem pl25_2 : placeOf Tryd.prog 25 2 = some (2, 1) := placeOf_fld fld25_2
theorem pl25_3 : placeOf Tryd.prog 25 3 = some (3, 1) := placeOf_fld fld25_3
theorem bd26 (is : List Nat) (ds zs : List D) (K : D → Prop) : buildD Tryd.prog 26 is ds zs K = fillD (placeOf Tryd.prog 26) (is.zip ds) zs fun cs => K (.agg cs) := buildD_struct Tryd.underlying26 (by kernel_rfl) is ds zs
theorem pl26_0 : placeOf Tryd.prog 26 0 = some (0, 1) := placeOf_fld fld26_0
theorem pl26_1 : placeOf Tryd.prog 26 1 = some (1, 1) := placeOf_fld fld26_1
theorem pl26_2 : placeOf Tryd.prog 26 2 = some (2, 4) := placeOf_fld fld26_2
theorem bd27 (is : List Nat) (ds zs : List D) (K : D → Prop) : buildD Tryd.prog 27 is ds zs K = fillD (placeOf Tryd.prog 27) (is.zip ds) zs fun cs => K (.agg cs) := buildD_struct Tryd.underlying27 (by kernel_rfl) is ds zs
theorem pl27_0 : placeOf Tryd.prog 27 0 = some (0, 1) := placeOf_fld fld27_0
theorem pl27_1 : placeOf Tryd.prog 27 1 = some (1, 1) := placeOf_fld fld27_1
theorem pl27_2 : placeOf Tryd.prog 27 2 = some (2, 4) := placeOf_fld fld27_2
theorem bs33 (len : Nat) (is : List Nat) (ds : List D) (K : D → Prop) : buildSl Tryd.prog 33 len is ds K = (ds.length = len ∧ len * 2 ≤ 16777216 ∧ len ≤ 16777216 ∧ is = List.range len ∧ allCells 2 ds ∧ K (.sl true 2 (ds.map D.cells))) := buildSl_of el33 (by rw [zero47]; rfl) len is ds
theorem io33 (S : List (Nat × O)) (g : Nat) (A : Option Addr) (m cap : Nat) (ik : IntKind) (i : Int) (K : D → Prop) : indexAddrN Tryd.prog S 33 (.own g A m cap) (.int ik i) K = (0 ≤ i ∧ i < m ∧ withO (Dw.look g S) fun o => match o with | O.row A' m' cap' _ k _ => A' = A ∧ m' = m ∧ cap' = cap ∧ k = 2 ∧ K (.ref g (A.getD default).block (i.toNat * k)) | _ => False) := indexAddr_own el33 g A m cap ik i
theorem ap33 {E : Env} {φ : St} {k : Nat} {x y : Operand} {ty : TypeId} {pos : String} {after : Array Edge} {gd : Option (Nat × Bool)} {κ : St → Prop} (h : k < φ.N ∧ withO (ev E.G φ.fr x) fun ds => withO (ev E.G φ.fr y) fun dx => appD E φ k 47 2 32 ds dx κ) : stepD Tryd.prog E ⟨some k, .call { callee := .builtin .append, args := #[x, y], argTypes := #[33, 33] }, ty, pos, after, gd⟩ φ κ := ap_own el33 lay47 zero47 (by decide) (by decide) h
theorem bd36 (is : List Nat) (ds zs : List D) (K : D → Prop) : buildD Tryd.prog 36 is ds zs K = fillD (placeOf Tryd.prog 36) (is.zip ds) zs fun cs => K (.agg cs) := buildD_struct Tryd.underlying36 (by kernel_rfl) is ds zs
theorem pl36_0 : placeOf Tryd.prog 36 0 = some (0, 1) := placeOf_fld fld36_0
theorem pl36_1 : placeOf Tryd.prog 36 1 = some (1, 4) := placeOf_fld fld36_1
theorem bd37 (is : List Nat) (ds zs : List D) (K : D → Prop) : buildD Tryd.prog 37 is ds zs K = fillD (placeOf Tryd.prog 37) (is.zip ds) zs fun cs => K (.agg cs) := buildD_struct Tryd.underlying37 (by kernel_rfl) is ds zs
theorem pl37_0 : placeOf Tryd.prog 37 0 = some (0, 1) := placeOf_fld fld37_0
theorem pl37_1 : placeOf Tryd.prog 37 1 = some (1, 4) := placeOf_fld fld37_1
theorem za41 : zeroAgg Tryd.prog 25 = some true := by kernel_rfl
theorem lk41 (S : List (Nat × O)) (g r : Nat) (k : IntKind) (n : Int) (ok : Bool) (K : D → Prop) : lookN Tryd.prog S 41 (.mapr g r) (.int k n) ok K = (withO (Dw.look g S) fun o => match o with | O.map r' es => r' = r ∧ findM es (.int k n) (.agg [.int IntKind.i64 0, .str [], .int IntKind.i64 0, .nil]) ok K | _ => False) := lookN_int Tryd.underlying41 Tryd.underlying3 zero25 lay25 za41 g r k n ok
theorem mu41 {E : Env} {φ : St} {κ : St → Prop} {ty : TypeId} {pos : String} {after : Array Edge} {gd : Option (Nat × Bool)} {m k v : Operand} (h : withO (ev E.G φ.fr m) fun dm => withO (ev E.G φ.fr k) fun dk => withO (ev E.G φ.fr v) fun dv => (match dk with | .int _ _ => True | _ => False) ∧ mupD E φ dm dk dv κ) : stepE Tryd.prog E ⟨none, .mapUpdate 41 m k v, ty, pos, after, gd⟩ φ κ := mup_int Tryd.underlying41 Tryd.underlying3 h
theorem bd42 (is : List Nat) (ds zs : List D) (K : D → Prop) : buildD Tryd.prog 42 is ds zs K = fillD (placeOf Tryd.prog 42) (is.zip ds) zs fun cs => K (.agg cs) := buildD_struct Tryd.underlying42 (by kernel_rfl) is ds zs
theorem pl42_0 : placeOf Tryd.prog 42 0 = some (0, 1) := placeOf_fld fld42_0
theorem bd43 (is : List Nat) (ds zs : List D) (K : D → Prop) : buildD Tryd.prog 43 is ds zs K = fillD (placeOf Tryd.prog 43) (is.zip ds) zs fun cs => K (.agg cs) := buildD_struct Tryd.underlying43 (by kernel_rfl) is ds zs
theorem pl43_0 : placeOf Tryd.prog 43 0 = some (0, 1) := placeOf_fld fld43_0
theorem bd47 (is : List Nat) (ds zs : List D) (K : D → Prop) : buildD Tryd.prog 47 is ds zs K = fillD (fun i => some (i * 1, 1)) (is.zip ds) zs fun cs => K (.agg cs) := buildD_array ar47 is ds zs
theorem iar47 (S : List (Nat × O)) (g b off : Nat) (ik : IntKind) (i : Int) (K : D → Prop) : indexAddrN Tryd.prog S 47 (.ref g b off) (.int ik i) K = (0 ≤ i ∧ i < (2 : Nat) ∧ K (.ref g b (off + i.toNat * 1))) := indexAddr_ref ar47 g b off ik i
theorem iap47 (S : List (Nat × O)) (cs : List D) (ik : IntKind) (i : Int) (K : D → Prop) : indexAddrN Tryd.prog S 47 (.rp cs) (.int ik i) K = (0 ≤ i ∧ i < (2 : Nat) ∧ K (.rp (cs.drop (i.toNat * 1)))) := indexAddr_rp ar47 cs ik i
theorem bd51 (is : List Nat) (ds zs : List D) (K : D → Prop) : buildD Tryd.prog 51 is ds zs K = fillD (fun i => some (i * 1, 1)) (is.zip ds) zs fun cs => K (.agg cs) := buildD_array ar51 is ds zs
theorem iar51 (S : List (Nat × O)) (g b off : Nat) (ik : IntKind) (i : Int) (K : D → Prop) : indexAddrN Tryd.prog S 51 (.ref g b off) (.int ik i) K = (0 ≤ i ∧ i < (6 : Nat) ∧ K (.ref g b (off + i.toNat * 1))) := indexAddr_ref ar51 g b off ik i
theorem iap51 (S : List (Nat × O)) (cs : List D) (ik : IntKind) (i : Int) (K : D → Prop) : indexAddrN Tryd.prog S 51 (.rp cs) (.int ik i) K = (0 ≤ i ∧ i < (6 : Nat) ∧ K (.rp (cs.drop (i.toNat * 1)))) := indexAddr_rp ar51 cs ik i
theorem bd58 (is : List Nat) (ds zs : List D) (K : D → Prop) : buildD Tryd.prog 58 is ds zs K = fillD (fun i => some (i * 1, 1)) (is.zip ds) zs fun cs => K (.agg cs) := buildD_array ar58 is ds zs
theorem iar58 (S : List (Nat × O)) (g b off : Nat) (ik : IntKind) (i : Int) (K : D → Prop) : indexAddrN Tryd.prog S 58 (.ref g b off) (.int ik i) K = (0 ≤ i ∧ i < (256 : Nat) ∧ K (.ref g b (off + i.toNat * 1))) := indexAddr_ref ar58 g b off ik i
theorem iap58 (S : List (Nat × O)) (cs : List D) (ik : IntKind) (i : Int) (K : D → Prop) : indexAddrN Tryd.prog S 58 (.rp cs) (.int ik i) K = (0 ≤ i ∧ i < (256 : Nat) ∧ K (.rp (cs.drop (i.toNat * 1)))) := indexAddr_rp ar58 cs ik i
theorem bd59 (is : List Nat) (ds zs : List D) (K : D → Prop) : buildD Tryd.prog 59 is ds zs K = fillD (fun i => some (i * 1, 1)) (is.zip ds) zs fun cs => K (.agg cs) := buildD_array ar59 is ds zs
theorem iar59 (S : List (Nat × O)) (g b off : Nat) (ik : IntKind) (i : Int) (K : D → Prop) : indexAddrN Tryd.prog S 59 (.ref g b off) (.int ik i) K = (0 ≤ i ∧ i < (256 : Nat) ∧ K (.ref g b (off + i.toNat * 1))) := indexAddr_ref ar59 g b off ik i
theorem iap59 (S : List (Nat × O)) (cs : List D) (ik : IntKind) (i : Int) (K : D → Prop) : indexAddrN Tryd.prog S 59 (.rp cs) (.int ik i) K = (0 ≤ i ∧ i < (256 : Nat) ∧ K (.rp (cs.drop (i.toNat * 1)))) := indexAddr_rp ar59 cs ik i
theorem bd69 (is : List Nat) (ds zs : List D) (K : D → Prop) : buildD Tryd.prog 69 is ds zs K = fillD (placeOf Tryd.prog 69) (is.zip ds) zs fun cs => K (.agg cs) := buildD_struct Tryd.underlying69 (by kernel_rfl) is ds zs
theorem pl69_0 : placeOf Tryd.prog 69 0 = some (0, 1) := placeOf_fld fld69_0
theorem pl69_1 : placeOf Tryd.prog 69 1 = some (1, 1) := placeOf_fld fld69_1
theorem pl69_2 : placeOf Tryd.prog 69 2 = some (2, 1) := placeOf_fld fld69_2
theorem pl69_3 : placeOf Tryd.prog 69 3 = some (3, 1) := placeOf_fld fld69_3
theorem bd70 (is : List Nat) (ds zs : List D) (K : D → Prop) : buildD Tryd.prog 70 is ds zs K = fillD (placeOf Tryd.prog 70) (is.zip ds) zs fun cs => K (.agg cs) := buildD_struct Tryd.underlying70 (by kernel_rfl) is ds zs
theorem pl70_0 : placeOf Tryd.prog 70 0 = some (0, 1) := placeOf_fld fld70_0
theorem pl70_1 : placeOf Tryd.prog 70 1 = some (1, 1) := placeOf_fld fld70_1
theorem pl70_2 : placeOf Tryd.prog 70 2 = some (2, 1) := placeOf_fld fld70_2
theorem pl70_3 : placeOf Tryd.prog 70 3 = some (3, 1) := placeOf_fld fld70_3
theorem bd71 (is : List Nat) (ds zs : List D) (K : D → Prop) : buildD Tryd.prog 71 is ds zs K = fillD (fun i => some (i * 1, 1)) (is.zip ds) zs fun cs => K (.agg cs) := buildD_array ar71 is ds zs
theorem iar71 (S : List (Nat × O)) (g b off : Nat) (ik : IntKind) (i : Int) (K : D → Prop) : indexAddrN Tryd.prog S 71 (.ref g b off) (.int ik i) K = (0 ≤ i ∧ i < (0 : Nat) ∧ K (.ref g b (off + i.toNat * 1))) := indexAddr_ref ar71 g b off ik i
theorem iap71 (S : List (Nat × O)) (cs : List D) (ik : IntKind) (i : Int) (K : D → Prop) : indexAddrN Tryd.prog S 71 (.rp cs) (.int ik i) K = (0 ≤ i ∧ i < (0 : Nat) ∧ K (.rp (cs.drop (i.toNat * 1)))) := indexAddr_rp ar71 cs ik i
theorem bd72 (is : List Nat) (ds zs : List D) (K : D → Prop) : buildD Tryd.prog 72 is ds zs K = fillD (placeOf Tryd.prog 72) (is.zip ds) zs fun cs => K (.agg cs) := buildD_struct Tryd.underlying72 (by kernel_rfl) is ds zs
theorem bd73 (is : List Nat) (ds zs : List D) (K : D → Prop) : buildD Tryd.prog 73 is ds zs K = fillD (placeOf Tryd.prog 73) (is.zip ds) zs fun cs => K (.agg cs) := buildD_struct Tryd.underlying73 (by kernel_rfl) is ds zs
theorem bd82 (is : List Nat) (ds zs : List D) (K : D → Prop) : buildD Tryd.prog 82 is ds zs K = fillD (placeOf Tryd.prog 82) (is.zip ds) zs fun cs => K (.agg cs) := buildD_struct Tryd.underlying82 (by kernel_rfl) is ds zs
theorem pl82_0 : placeOf Tryd.prog 82 0 = some (0, 1) := placeOf_fld fld82_0
theorem pl82_1 : placeOf Tryd.prog 82 1 = some (1, 1) := placeOf_fld fld82_1
theorem pl82_2 : placeOf Tryd.prog 82 2 = some (2, 1) := placeOf_fld fld82_2
theorem pl82_3 : placeOf Tryd.prog 82 3 = some (3, 1) := placeOf_fld fld82_3
theorem pl82_4 : placeOf Tryd.prog 82 4 = some (4, 1) := placeOf_fld fld82_4
theorem pl82_5 : placeOf Tryd.prog 82 5 = some (5, 1) := placeOf_fld fld82_5
theorem pl82_6 : placeOf Tryd.prog 82 6 = some (6, 1) := placeOf_fld fld82_6
theorem pl82_7 : placeOf Tryd.prog 82 7 = some (7, 1) := placeOf_fld fld82_7
theorem pl82_8 : placeOf Tryd.prog 82 8 = some (8, 1) := placeOf_fld fld82_8
theorem pl82_9 : placeOf Tryd.prog 82 9 = some (9, 1) := placeOf_fld fld82_9
theorem pl82_10 : placeOf Tryd.prog 82 10 = some (10, 1) := placeOf_fld fld82_10
theorem bd83 (is : List Nat) (ds zs : List D) (K : D → Prop) : buildD Tryd.prog 83 is ds zs K = fillD (placeOf Tryd.prog 83) (is.zip ds) zs fun cs => K (.agg cs) := buildD_struct Tryd.underlying83 (by kernel_rfl) is ds zs
theorem pl83_0 : placeOf Tryd.prog 83 0 = some (0, 1) := placeOf_fld fld83_0
theorem pl83_1 : placeOf Tryd.prog 83 1 = some (1, 1) := placeOf_fld fld83_1
theorem pl83_2 : placeOf Tryd.prog 83 2 = some (2, 1) := placeOf_fld fld83_2
theorem pl83_3 : placeOf Tryd.prog 83 3 = some (3, 1) := placeOf_fld fld83_3
theorem pl83_4 : placeOf Tryd.prog 83 4 = some (4, 1) := placeOf_fld fld83_4
theorem pl83_5 : placeOf Tryd.prog 83 5 = some (5, 1) := placeOf_fld fld83_5
theorem pl83_6 : placeOf Tryd.prog 83 6 = some (6, 1) := placeOf_fld fld83_6
theorem pl83_7 : placeOf Tryd.prog 83 7 = some (7, 1) := placeOf_fld fld83_7
theorem pl83_8 : placeOf Tryd.prog 83 8 = some (8, 1) := placeOf_fld fld83_8
theorem pl83_9 : placeOf Tryd.prog 83 9 = some (9, 1) := placeOf_fld fld83_9
theorem pl83_10 : placeOf Tryd.prog 83 10 = some (10, 1) := placeOf_fld fld83_10
theorem cv5_21 (k : IntKind) (n : Int) (K : D → Prop) : convN Tryd.prog 5 21 (.int k n) K = K (.int IntKind.i32 ((IntKind.i32).wrap n)) := convN_int Tryd.underlying5 Tryd.underlying21 k n
theorem cv21_5 (k : IntKind) (n : Int) (K : D → Prop) : convN Tryd.prog 21 5 (.int k n) K = K (.int IntKind.u8 ((IntKind.u8).wrap n)) := convN_int Tryd.underlying21 Tryd.underlying5 k n
theorem cv21_9 (k : IntKind) (n : Int) (K : D → Prop) : convN Tryd.prog 21 9 (.int k n) K = K (.str (Utf8.encode n).data.toList) := convN_chr Tryd.underlying21 Tryd.underlying9 k n
theorem ent4 : enters Tryd.prog 4 = true := by kernel_rfl
theorem ent5 : enters Tryd.prog 5 = true := by kernel_rfl
theorem ent6 : enters Tryd.prog 6 = true := by kernel_rfl
theorem ent7 : enters Tryd.prog 7 = true := by kernel_rfl
theorem ent8 : enters Tryd.prog 8 = true := by kernel_rfl
theorem ent9 : enters Tryd.prog 9 = true := by kernel_rfl
theorem ent10 : enters Tryd.prog 10 = true := by kernel_rfl
theorem ent11 : enters Tryd.prog 11 = true := by kernel_rfl
theorem ent12 : enters Tryd.prog 12 = true := by kernel_rfl
theorem ent13 : enters Tryd.prog 13 = true := by kernel_rfl
theorem ent14 : enters Tryd.prog 14 = true := by kernel_rfl
theorem ent15 : enters Tryd.prog 15 = true := by kernel_rfl
theorem ent16 : enters Tryd.prog 16 = true := by kernel_rfl
theorem ent17 : enters Tryd.prog 17 = true := by kernel_rfl
theorem ent18 : enters Tryd.prog 18 = true := by kernel_rfl
theorem ent19 : enters Tryd.prog 19 = true := by kernel_rfl
theorem ent20 : enters Tryd.prog 20 = true := by kernel_rfl
theorem ent21 : enters Tryd.prog 21 = true := by kernel_rfl
theorem ent22 : enters Tryd.prog 22 = true := by kernel_rfl
theorem ent23 : enters Tryd.prog 23 = true := by kernel_rfl
theorem ent24 : enters Tryd.prog 24 = true := by kernel_rfl
theorem ent25 : enters Tryd.prog 25 = true := by kernel_rfl
theorem ent26 : enters Tryd.prog 26 = true := by kernel_rfl
theorem ent27 : enters Tryd.prog 27 = true := by kernel_rfl
theorem ent28 : enters Tryd.prog 28 = true := by kernel_rfl
theorem ent30 : enters Tryd.prog 30 = true := by kernel_rfl
theorem mixed : Tryd.prog.follows .mixedOrders = true := by kernel_rfl
end Go.Proofs.YtjbajnkbiohoeaaDoor
