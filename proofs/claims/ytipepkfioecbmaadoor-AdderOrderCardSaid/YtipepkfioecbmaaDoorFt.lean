/- Facts of the program's types, printed by facts.sh. -/
import Derived.Test.YtipepkfioecbmaaDoorAb20
import Derived.Test.YtipepkfioecbmaaDoorAb25
import Derived.Test.YtipepkfioecbmaaDoorChecked
namespace Go.Proofs.Tryd
open Go.Ab
@[go_sem] theorem agT0 : agT Tryd.prog 0 = some (false, 1) := by kernel_rfl
@[go_sem] theorem zrT0 : zrT Tryd.prog 0 = some [Go.Value.tuple #[]] := by kernel_rfl
@[go_sem] theorem agT1 : agT Tryd.prog 1 = some (false, 1) := by kernel_rfl
@[go_sem] theorem zrT1 : zrT Tryd.prog 1 = some [Go.Value.nilFunc] := by kernel_rfl
@[go_sem] theorem agT2 : agT Tryd.prog 2 = some (false, 1) := by kernel_rfl
@[go_sem] theorem zrT2 : zrT Tryd.prog 2 = some [Go.Value.int Go.IntKind.i64 0] := by kernel_rfl
@[go_sem] theorem inT2 : inT Tryd.prog 2 = some Go.IntKind.i64 := by kernel_rfl
@[go_sem] theorem agT3 : agT Tryd.prog 3 = some (false, 1) := by kernel_rfl
@[go_sem] theorem zrT3 : zrT Tryd.prog 3 = some [Go.Value.int Go.IntKind.i64 0] := by kernel_rfl
@[go_sem] theorem inT3 : inT Tryd.prog 3 = some Go.IntKind.i64 := by kernel_rfl
@[go_sem] theorem agT4 : agT Tryd.prog 4 = some (false, 1) := by kernel_rfl
@[go_sem] theorem zrT4 : zrT Tryd.prog 4 = some [Go.Value.bool false] := by kernel_rfl
@[go_sem] theorem boolT4 : boolT Tryd.prog 4 = true := by kernel_rfl
@[go_sem] theorem agT5 : agT Tryd.prog 5 = some (false, 1) := by kernel_rfl
@[go_sem] theorem zrT5 : zrT Tryd.prog 5 = some [Go.Value.int Go.IntKind.u8 0] := by kernel_rfl
@[go_sem] theorem inT5 : inT Tryd.prog 5 = some Go.IntKind.u8 := by kernel_rfl
@[go_sem] theorem agT6 : agT Tryd.prog 6 = some (false, 1) := by kernel_rfl
@[go_sem] theorem zrT6 : zrT Tryd.prog 6 = some [Go.Value.int Go.IntKind.u8 0] := by kernel_rfl
@[go_sem] theorem inT6 : inT Tryd.prog 6 = some Go.IntKind.u8 := by kernel_rfl
@[go_sem] theorem agT7 : agT Tryd.prog 7 = some (true, 4) := by kernel_rfl
@[go_sem] theorem stT7 : stT Tryd.prog 7 = true := by kernel_rfl
@[go_sem] theorem zrT7 : zrT Tryd.prog 7 = some [Go.Value.int Go.IntKind.i64 0, Go.Value.int Go.IntKind.i64 0, Go.Value.bool false, Go.Value.int Go.IntKind.u8 0] := by kernel_rfl
@[go_sem] theorem flT7_0 : flT Tryd.prog 7 0 = some (0, false, 1) := by kernel_rfl
@[go_sem] theorem flT7_1 : flT Tryd.prog 7 1 = some (1, false, 1) := by kernel_rfl
@[go_sem] theorem flT7_2 : flT Tryd.prog 7 2 = some (2, false, 1) := by kernel_rfl
@[go_sem] theorem flT7_3 : flT Tryd.prog 7 3 = some (3, false, 1) := by kernel_rfl
@[go_sem] theorem agT8 : agT Tryd.prog 8 = some (true, 4) := by kernel_rfl
@[go_sem] theorem stT8 : stT Tryd.prog 8 = true := by kernel_rfl
@[go_sem] theorem zrT8 : zrT Tryd.prog 8 = some [Go.Value.int Go.IntKind.i64 0, Go.Value.int Go.IntKind.i64 0, Go.Value.bool false, Go.Value.int Go.IntKind.u8 0] := by kernel_rfl
@[go_sem] theorem flT8_0 : flT Tryd.prog 8 0 = some (0, false, 1) := by kernel_rfl
@[go_sem] theorem flT8_1 : flT Tryd.prog 8 1 = some (1, false, 1) := by kernel_rfl
@[go_sem] theorem flT8_2 : flT Tryd.prog 8 2 = some (2, false, 1) := by kernel_rfl
@[go_sem] theorem flT8_3 : flT Tryd.prog 8 3 = some (3, false, 1) := by kernel_rfl
@[go_sem] theorem agT9 : agT Tryd.prog 9 = some (false, 1) := by kernel_rfl
@[go_sem] theorem zrT9 : zrT Tryd.prog 9 = some [Go.Value.string { data := #[] }] := by kernel_rfl
@[go_sem] theorem agT10 : agT Tryd.prog 10 = some (false, 1) := by kernel_rfl
@[go_sem] theorem zrT10 : zrT Tryd.prog 10 = some [Go.Value.string { data := #[] }] := by kernel_rfl
@[go_sem] theorem agT11 : agT Tryd.prog 11 = some (false, 1) := by kernel_rfl
@[go_sem] theorem zrT11 : zrT Tryd.prog 11 = some [Go.Value.string { data := #[] }] := by kernel_rfl
@[go_sem] theorem agT12 : agT Tryd.prog 12 = some (false, 1) := by kernel_rfl
@[go_sem] theorem zrT12 : zrT Tryd.prog 12 = some [Go.Value.int Go.IntKind.u64 0] := by kernel_rfl
@[go_sem] theorem inT12 : inT Tryd.prog 12 = some Go.IntKind.u64 := by kernel_rfl
@[go_sem] theorem agT13 : agT Tryd.prog 13 = some (true, 2) := by kernel_rfl
@[go_sem] theorem stT13 : stT Tryd.prog 13 = true := by kernel_rfl
@[go_sem] theorem zrT13 : zrT Tryd.prog 13 = some [Go.Value.string { data := #[] }, Go.Value.int Go.IntKind.u64 0] := by kernel_rfl
@[go_sem] theorem flT13_0 : flT Tryd.prog 13 0 = some (0, false, 1) := by kernel_rfl
@[go_sem] theorem flT13_1 : flT Tryd.prog 13 1 = some (1, false, 1) := by kernel_rfl
@[go_sem] theorem agT14 : agT Tryd.prog 14 = some (true, 2) := by kernel_rfl
@[go_sem] theorem stT14 : stT Tryd.prog 14 = true := by kernel_rfl
@[go_sem] theorem zrT14 : zrT Tryd.prog 14 = some [Go.Value.string { data := #[] }, Go.Value.int Go.IntKind.u64 0] := by kernel_rfl
@[go_sem] theorem flT14_0 : flT Tryd.prog 14 0 = some (0, false, 1) := by kernel_rfl
@[go_sem] theorem flT14_1 : flT Tryd.prog 14 1 = some (1, false, 1) := by kernel_rfl
@[go_sem] theorem agT15 : agT Tryd.prog 15 = some (false, 1) := by kernel_rfl
@[go_sem] theorem zrT15 : zrT Tryd.prog 15 = some [Go.Value.pointer none] := by kernel_rfl
@[go_sem] theorem agT16 : agT Tryd.prog 16 = some (false, 1) := by kernel_rfl
@[go_sem] theorem zrT16 : zrT Tryd.prog 16 = some [Go.Value.pointer none] := by kernel_rfl
@[go_sem] theorem agT17 : agT Tryd.prog 17 = some (false, 1) := by kernel_rfl
@[go_sem] theorem zrT17 : zrT Tryd.prog 17 = some [Go.Value.pointer none] := by kernel_rfl
@[go_sem] theorem agT18 : agT Tryd.prog 18 = some (true, 1) := by kernel_rfl
@[go_sem] theorem stT18 : stT Tryd.prog 18 = true := by kernel_rfl
@[go_sem] theorem zrT18 : zrT Tryd.prog 18 = some [Go.Value.pointer none] := by kernel_rfl
@[go_sem] theorem flT18_0 : flT Tryd.prog 18 0 = some (0, false, 1) := by kernel_rfl
@[go_sem] theorem agT19 : agT Tryd.prog 19 = some (true, 1) := by kernel_rfl
@[go_sem] theorem stT19 : stT Tryd.prog 19 = true := by kernel_rfl
@[go_sem] theorem zrT19 : zrT Tryd.prog 19 = some [Go.Value.pointer none] := by kernel_rfl
@[go_sem] theorem flT19_0 : flT Tryd.prog 19 0 = some (0, false, 1) := by kernel_rfl
@[go_sem] theorem agT20 : agT Tryd.prog 20 = some (false, 1) := by kernel_rfl
@[go_sem] theorem zrT20 : zrT Tryd.prog 20 = some [Go.Value.nilIface] := by kernel_rfl
@[go_sem] theorem agT21 : agT Tryd.prog 21 = some (false, 1) := by kernel_rfl
@[go_sem] theorem zrT21 : zrT Tryd.prog 21 = some [Go.Value.int Go.IntKind.i32 0] := by kernel_rfl
@[go_sem] theorem inT21 : inT Tryd.prog 21 = some Go.IntKind.i32 := by kernel_rfl
@[go_sem] theorem slT22 : slT Tryd.prog 22 = some (3, 1, 8, [Go.Value.int Go.IntKind.i64 0]) := by kernel_rfl
@[go_sem] theorem zeT22 : zeT Tryd.prog 22 = some (Go.Ab.PV.sc (.int .i64 0)) := by kernel_rfl
@[go_sem] theorem agT22 : agT Tryd.prog 22 = some (false, 1) := by kernel_rfl
@[go_sem] theorem zrT22 : zrT Tryd.prog 22 = some [Go.Value.slice none 0 0] := by kernel_rfl
@[go_sem] theorem agT23 : agT Tryd.prog 23 = some (false, 1) := by kernel_rfl
@[go_sem] theorem zrT23 : zrT Tryd.prog 23 = some [Go.Value.nilFunc] := by kernel_rfl
@[go_sem] theorem slT24 : slT Tryd.prog 24 = some (22, 1, 24, [Go.Value.slice none 0 0]) := by kernel_rfl
@[go_sem] theorem zeT24 : zeT Tryd.prog 24 = some (Go.Ab.PV.sc (Go.Value.slice none 0 0)) := by kernel_rfl
@[go_sem] theorem agT24 : agT Tryd.prog 24 = some (false, 1) := by kernel_rfl
@[go_sem] theorem zrT24 : zrT Tryd.prog 24 = some [Go.Value.slice none 0 0] := by kernel_rfl
@[go_sem] theorem agT25 : agT Tryd.prog 25 = some (false, 1) := by kernel_rfl
@[go_sem] theorem zrT25 : zrT Tryd.prog 25 = some [Go.Value.int Go.IntKind.i64 0] := by kernel_rfl
@[go_sem] theorem inT25 : inT Tryd.prog 25 = some Go.IntKind.i64 := by kernel_rfl
@[go_sem] theorem agT26 : agT Tryd.prog 26 = some (false, 1) := by kernel_rfl
@[go_sem] theorem zrT26 : zrT Tryd.prog 26 = some [Go.Value.tuple { toList := [Go.Value.slice none 0 0, Go.Value.slice none 0 0, Go.Value.int Go.IntKind.i64 0, Go.Value.int Go.IntKind.i64 0] }] := by kernel_rfl
@[go_sem] theorem agT27 : agT Tryd.prog 27 = some (false, 1) := by kernel_rfl
@[go_sem] theorem zrT27 : zrT Tryd.prog 27 = some [Go.Value.nilFunc] := by kernel_rfl
@[go_sem] theorem agT28 : agT Tryd.prog 28 = some (false, 1) := by kernel_rfl
@[go_sem] theorem zrT28 : zrT Tryd.prog 28 = some [Go.Value.nilFunc] := by kernel_rfl
@[go_sem] theorem agT29 : agT Tryd.prog 29 = some (false, 1) := by kernel_rfl
@[go_sem] theorem zrT29 : zrT Tryd.prog 29 = some [Go.Value.nilFunc] := by kernel_rfl
@[go_sem] theorem agT30 : agT Tryd.prog 30 = some (false, 1) := by kernel_rfl
@[go_sem] theorem zrT30 : zrT Tryd.prog 30 = some [Go.Value.nilFunc] := by kernel_rfl
@[go_sem] theorem agT31 : agT Tryd.prog 31 = some (false, 1) := by kernel_rfl
@[go_sem] theorem zrT31 : zrT Tryd.prog 31 = some [Go.Value.tuple { toList := [Go.Value.slice none 0 0, Go.Value.int Go.IntKind.i64 0] }] := by kernel_rfl
@[go_sem] theorem agT32 : agT Tryd.prog 32 = some (false, 1) := by kernel_rfl
@[go_sem] theorem zrT32 : zrT Tryd.prog 32 = some [Go.Value.nilFunc] := by kernel_rfl
@[go_sem] theorem agT33 : agT Tryd.prog 33 = some (false, 1) := by kernel_rfl
@[go_sem] theorem zrT33 : zrT Tryd.prog 33 = some [Go.Value.nilFunc] := by kernel_rfl
@[go_sem] theorem slT34 : slT Tryd.prog 34 = some (4, 1, 1, [Go.Value.bool false]) := by kernel_rfl
@[go_sem] theorem zeT34 : zeT Tryd.prog 34 = some (Go.Ab.PV.sc (Go.Value.bool false)) := by kernel_rfl
@[go_sem] theorem agT34 : agT Tryd.prog 34 = some (false, 1) := by kernel_rfl
@[go_sem] theorem zrT34 : zrT Tryd.prog 34 = some [Go.Value.slice none 0 0] := by kernel_rfl
@[go_sem] theorem agT35 : agT Tryd.prog 35 = some (false, 1) := by kernel_rfl
@[go_sem] theorem zrT35 : zrT Tryd.prog 35 = some [Go.Value.nilFunc] := by kernel_rfl
@[go_sem] theorem agT36 : agT Tryd.prog 36 = some (false, 1) := by kernel_rfl
@[go_sem] theorem zrT36 : zrT Tryd.prog 36 = some [Go.Value.nilFunc] := by kernel_rfl
@[go_sem] theorem agT37 : agT Tryd.prog 37 = some (false, 1) := by kernel_rfl
@[go_sem] theorem zrT37 : zrT Tryd.prog 37 = some [Go.Value.nilFunc] := by kernel_rfl
@[go_sem] theorem agT38 : agT Tryd.prog 38 = some (false, 1) := by kernel_rfl
@[go_sem] theorem zrT38 : zrT Tryd.prog 38 = some [Go.Value.nilFunc] := by kernel_rfl
@[go_sem] theorem agT39 : agT Tryd.prog 39 = some (false, 1) := by kernel_rfl
@[go_sem] theorem zrT39 : zrT Tryd.prog 39 = some [Go.Value.tuple { toList := [Go.Value.slice none 0 0, Go.Value.bool false] }] := by kernel_rfl
@[go_sem] theorem agT40 : agT Tryd.prog 40 = some (false, 1) := by kernel_rfl
@[go_sem] theorem zrT40 : zrT Tryd.prog 40 = some [Go.Value.nilFunc] := by kernel_rfl
@[go_sem] theorem agT41 : agT Tryd.prog 41 = some (false, 1) := by kernel_rfl
@[go_sem] theorem zrT41 : zrT Tryd.prog 41 = some [Go.Value.nilFunc] := by kernel_rfl
@[go_sem] theorem agT42 : agT Tryd.prog 42 = some (false, 1) := by kernel_rfl
@[go_sem] theorem zrT42 : zrT Tryd.prog 42 = some [Go.Value.nilFunc] := by kernel_rfl
@[go_sem] theorem agT43 : agT Tryd.prog 43 = some (true, 2) := by kernel_rfl
@[go_sem] theorem stT43 : stT Tryd.prog 43 = true := by kernel_rfl
@[go_sem] theorem zrT43 : zrT Tryd.prog 43 = some [Go.Value.int Go.IntKind.i64 0, Go.Value.slice none 0 0] := by kernel_rfl
@[go_sem] theorem flT43_0 : flT Tryd.prog 43 0 = some (0, false, 1) := by kernel_rfl
@[go_sem] theorem flT43_1 : flT Tryd.prog 43 1 = some (1, false, 1) := by kernel_rfl
@[go_sem] theorem agT44 : agT Tryd.prog 44 = some (true, 2) := by kernel_rfl
@[go_sem] theorem stT44 : stT Tryd.prog 44 = true := by kernel_rfl
@[go_sem] theorem zrT44 : zrT Tryd.prog 44 = some [Go.Value.int Go.IntKind.i64 0, Go.Value.slice none 0 0] := by kernel_rfl
@[go_sem] theorem flT44_0 : flT Tryd.prog 44 0 = some (0, false, 1) := by kernel_rfl
@[go_sem] theorem flT44_1 : flT Tryd.prog 44 1 = some (1, false, 1) := by kernel_rfl
@[go_sem] theorem agT45 : agT Tryd.prog 45 = some (false, 1) := by kernel_rfl
@[go_sem] theorem zrT45 : zrT Tryd.prog 45 = some [Go.Value.nilFunc] := by kernel_rfl
@[go_sem] theorem agT46 : agT Tryd.prog 46 = some (false, 1) := by kernel_rfl
@[go_sem] theorem zrT46 : zrT Tryd.prog 46 = some [Go.Value.nilFunc] := by kernel_rfl
@[go_sem] theorem agT47 : agT Tryd.prog 47 = some (false, 1) := by kernel_rfl
@[go_sem] theorem zrT47 : zrT Tryd.prog 47 = some [Go.Value.nilFunc] := by kernel_rfl
@[go_sem] theorem agT48 : agT Tryd.prog 48 = some (true, 3) := by kernel_rfl
@[go_sem] theorem stT48 : stT Tryd.prog 48 = true := by kernel_rfl
@[go_sem] theorem zrT48 : zrT Tryd.prog 48 = some [Go.Value.slice none 0 0, Go.Value.slice none 0 0, Go.Value.int Go.IntKind.i64 0] := by kernel_rfl
@[go_sem] theorem flT48_0 : flT Tryd.prog 48 0 = some (0, false, 1) := by kernel_rfl
@[go_sem] theorem flT48_1 : flT Tryd.prog 48 1 = some (1, false, 1) := by kernel_rfl
@[go_sem] theorem flT48_2 : flT Tryd.prog 48 2 = some (2, false, 1) := by kernel_rfl
@[go_sem] theorem agT49 : agT Tryd.prog 49 = some (true, 3) := by kernel_rfl
@[go_sem] theorem stT49 : stT Tryd.prog 49 = true := by kernel_rfl
@[go_sem] theorem zrT49 : zrT Tryd.prog 49 = some [Go.Value.slice none 0 0, Go.Value.slice none 0 0, Go.Value.int Go.IntKind.i64 0] := by kernel_rfl
@[go_sem] theorem flT49_0 : flT Tryd.prog 49 0 = some (0, false, 1) := by kernel_rfl
@[go_sem] theorem flT49_1 : flT Tryd.prog 49 1 = some (1, false, 1) := by kernel_rfl
@[go_sem] theorem flT49_2 : flT Tryd.prog 49 2 = some (2, false, 1) := by kernel_rfl
@[go_sem] theorem agT50 : agT Tryd.prog 50 = some (false, 1) := by kernel_rfl
@[go_sem] theorem zrT50 : zrT Tryd.prog 50 = some [Go.Value.nilFunc] := by kernel_rfl
@[go_sem] theorem agT51 : agT Tryd.prog 51 = some (false, 1) := by kernel_rfl
@[go_sem] theorem zrT51 : zrT Tryd.prog 51 = some [Go.Value.nilFunc] := by kernel_rfl
@[go_sem] theorem agT52 : agT Tryd.prog 52 = some (false, 1) := by kernel_rfl
@[go_sem] theorem zrT52 : zrT Tryd.prog 52 = some [Go.Value.nilFunc] := by kernel_rfl
@[go_sem] theorem agT53 : agT Tryd.prog 53 = some (false, 1) := by kernel_rfl
@[go_sem] theorem zrT53 : zrT Tryd.prog 53 = some [Go.Value.nilFunc] := by kernel_rfl
@[go_sem] theorem agT54 : agT Tryd.prog 54 = some (false, 1) := by kernel_rfl
@[go_sem] theorem zrT54 : zrT Tryd.prog 54 = some [Go.Value.pointer none] := by kernel_rfl
@[go_sem] theorem agT55 : agT Tryd.prog 55 = some (false, 1) := by kernel_rfl
@[go_sem] theorem zrT55 : zrT Tryd.prog 55 = some [Go.Value.map none] := by kernel_rfl
@[go_sem] theorem mpT55 : mpT Tryd.prog 55 = some (Go.Value.slice none 0 0) := by kernel_rfl
@[go_sem] theorem agT56 : agT Tryd.prog 56 = some (true, 3) := by kernel_rfl
@[go_sem] theorem stT56 : stT Tryd.prog 56 = true := by kernel_rfl
@[go_sem] theorem zrT56 : zrT Tryd.prog 56 = some [Go.Value.map none, Go.Value.slice none 0 0, Go.Value.int Go.IntKind.i64 0] := by kernel_rfl
@[go_sem] theorem flT56_0 : flT Tryd.prog 56 0 = some (0, false, 1) := by kernel_rfl
@[go_sem] theorem flT56_1 : flT Tryd.prog 56 1 = some (1, false, 1) := by kernel_rfl
@[go_sem] theorem flT56_2 : flT Tryd.prog 56 2 = some (2, false, 1) := by kernel_rfl
@[go_sem] theorem agT57 : agT Tryd.prog 57 = some (true, 3) := by kernel_rfl
@[go_sem] theorem stT57 : stT Tryd.prog 57 = true := by kernel_rfl
@[go_sem] theorem zrT57 : zrT Tryd.prog 57 = some [Go.Value.map none, Go.Value.slice none 0 0, Go.Value.int Go.IntKind.i64 0] := by kernel_rfl
@[go_sem] theorem flT57_0 : flT Tryd.prog 57 0 = some (0, false, 1) := by kernel_rfl
@[go_sem] theorem flT57_1 : flT Tryd.prog 57 1 = some (1, false, 1) := by kernel_rfl
@[go_sem] theorem flT57_2 : flT Tryd.prog 57 2 = some (2, false, 1) := by kernel_rfl
@[go_sem] theorem agT58 : agT Tryd.prog 58 = some (false, 1) := by kernel_rfl
@[go_sem] theorem zrT58 : zrT Tryd.prog 58 = some [Go.Value.nilFunc] := by kernel_rfl
@[go_sem] theorem agT59 : agT Tryd.prog 59 = some (false, 1) := by kernel_rfl
@[go_sem] theorem zrT59 : zrT Tryd.prog 59 = some [Go.Value.int Go.IntKind.u64 0] := by kernel_rfl
@[go_sem] theorem inT59 : inT Tryd.prog 59 = some Go.IntKind.u64 := by kernel_rfl
@[go_sem] theorem agT60 : agT Tryd.prog 60 = some (false, 1) := by kernel_rfl
@[go_sem] theorem zrT60 : zrT Tryd.prog 60 = some [Go.Value.nilFunc] := by kernel_rfl
@[go_sem] theorem agT61 : agT Tryd.prog 61 = some (false, 1) := by kernel_rfl
@[go_sem] theorem zrT61 : zrT Tryd.prog 61 = some [Go.Value.tuple { toList := [Go.Value.int Go.IntKind.i64 0, Go.Value.int Go.IntKind.i64 0] }] := by kernel_rfl
@[go_sem] theorem agT62 : agT Tryd.prog 62 = some (false, 1) := by kernel_rfl
@[go_sem] theorem zrT62 : zrT Tryd.prog 62 = some [Go.Value.nilFunc] := by kernel_rfl
@[go_sem] theorem agT63 : agT Tryd.prog 63 = some (false, 1) := by kernel_rfl
@[go_sem] theorem zrT63 : zrT Tryd.prog 63 = some [Go.Value.pointer none] := by kernel_rfl
@[go_sem] theorem agT64 : agT Tryd.prog 64 = some (true, 3) := by kernel_rfl
@[go_sem] theorem stT64 : stT Tryd.prog 64 = true := by kernel_rfl
@[go_sem] theorem zrT64 : zrT Tryd.prog 64 = some [Go.Value.slice none 0 0, Go.Value.slice none 0 0, Go.Value.int Go.IntKind.i64 0] := by kernel_rfl
@[go_sem] theorem flT64_0 : flT Tryd.prog 64 0 = some (0, false, 1) := by kernel_rfl
@[go_sem] theorem flT64_1 : flT Tryd.prog 64 1 = some (1, false, 1) := by kernel_rfl
@[go_sem] theorem flT64_2 : flT Tryd.prog 64 2 = some (2, false, 1) := by kernel_rfl
@[go_sem] theorem agT65 : agT Tryd.prog 65 = some (true, 3) := by kernel_rfl
@[go_sem] theorem stT65 : stT Tryd.prog 65 = true := by kernel_rfl
@[go_sem] theorem zrT65 : zrT Tryd.prog 65 = some [Go.Value.slice none 0 0, Go.Value.slice none 0 0, Go.Value.int Go.IntKind.i64 0] := by kernel_rfl
@[go_sem] theorem flT65_0 : flT Tryd.prog 65 0 = some (0, false, 1) := by kernel_rfl
@[go_sem] theorem flT65_1 : flT Tryd.prog 65 1 = some (1, false, 1) := by kernel_rfl
@[go_sem] theorem flT65_2 : flT Tryd.prog 65 2 = some (2, false, 1) := by kernel_rfl
@[go_sem] theorem agT66 : agT Tryd.prog 66 = some (false, 1) := by kernel_rfl
@[go_sem] theorem zrT66 : zrT Tryd.prog 66 = some [Go.Value.nilFunc] := by kernel_rfl
@[go_sem] theorem agT67 : agT Tryd.prog 67 = some (false, 1) := by kernel_rfl
@[go_sem] theorem zrT67 : zrT Tryd.prog 67 = some [Go.Value.nilFunc] := by kernel_rfl
@[go_sem] theorem agT68 : agT Tryd.prog 68 = some (false, 1) := by kernel_rfl
@[go_sem] theorem zrT68 : zrT Tryd.prog 68 = some [Go.Value.nilFunc] := by kernel_rfl
@[go_sem] theorem agT69 : agT Tryd.prog 69 = some (false, 1) := by kernel_rfl
@[go_sem] theorem zrT69 : zrT Tryd.prog 69 = some [Go.Value.int Go.IntKind.i64 0] := by kernel_rfl
@[go_sem] theorem inT69 : inT Tryd.prog 69 = some Go.IntKind.i64 := by kernel_rfl
@[go_sem] theorem agT70 : agT Tryd.prog 70 = some (false, 1) := by kernel_rfl
@[go_sem] theorem zrT70 : zrT Tryd.prog 70 = some [Go.Value.nilFunc] := by kernel_rfl
@[go_sem] theorem agT71 : agT Tryd.prog 71 = some (false, 1) := by kernel_rfl
@[go_sem] theorem zrT71 : zrT Tryd.prog 71 = some [Go.Value.nilFunc] := by kernel_rfl
@[go_sem] theorem agT72 : agT Tryd.prog 72 = some (false, 1) := by kernel_rfl
@[go_sem] theorem zrT72 : zrT Tryd.prog 72 = some [Go.Value.nilFunc] := by kernel_rfl
@[go_sem] theorem agT73 : agT Tryd.prog 73 = some (false, 1) := by kernel_rfl
@[go_sem] theorem zrT73 : zrT Tryd.prog 73 = some [Go.Value.nilFunc] := by kernel_rfl
@[go_sem] theorem agT74 : agT Tryd.prog 74 = some (false, 1) := by kernel_rfl
@[go_sem] theorem zrT74 : zrT Tryd.prog 74 = some [Go.Value.nilFunc] := by kernel_rfl
@[go_sem] theorem agT75 : agT Tryd.prog 75 = some (false, 1) := by kernel_rfl
@[go_sem] theorem zrT75 : zrT Tryd.prog 75 = some [Go.Value.map none] := by kernel_rfl
@[go_sem] theorem mpT75 : mpT Tryd.prog 75 = some (Go.Value.agg { toList := [Go.Value.int Go.IntKind.i64 0, Go.Value.int Go.IntKind.i64 0] }) := by kernel_rfl
@[go_sem] theorem agT76 : agT Tryd.prog 76 = some (false, 1) := by kernel_rfl
@[go_sem] theorem zrT76 : zrT Tryd.prog 76 = some [Go.Value.nilFunc] := by kernel_rfl
@[go_sem] theorem agT77 : agT Tryd.prog 77 = some (true, 2) := by kernel_rfl
@[go_sem] theorem zrT77 : zrT Tryd.prog 77 = some [Go.Value.int Go.IntKind.i64 0, Go.Value.int Go.IntKind.i64 0] := by kernel_rfl
@[go_sem] theorem arT77 : arT Tryd.prog 77 = some (2, false, 1) := by kernel_rfl
@[go_sem] theorem agT78 : agT Tryd.prog 78 = some (false, 1) := by kernel_rfl
@[go_sem] theorem zrT78 : zrT Tryd.prog 78 = some [Go.Value.nilFunc] := by kernel_rfl
@[go_sem] theorem agT79 : agT Tryd.prog 79 = some (false, 1) := by kernel_rfl
@[go_sem] theorem zrT79 : zrT Tryd.prog 79 = some [Go.Value.nilFunc] := by kernel_rfl
@[go_sem] theorem agT80 : agT Tryd.prog 80 = some (false, 1) := by kernel_rfl
@[go_sem] theorem zrT80 : zrT Tryd.prog 80 = some [Go.Value.pointer none] := by kernel_rfl
@[go_sem] theorem agT81 : agT Tryd.prog 81 = some (true, 3) := by kernel_rfl
@[go_sem] theorem stT81 : stT Tryd.prog 81 = true := by kernel_rfl
@[go_sem] theorem zrT81 : zrT Tryd.prog 81 = some [Go.Value.slice none 0 0, Go.Value.slice none 0 0, Go.Value.int Go.IntKind.i64 0] := by kernel_rfl
@[go_sem] theorem flT81_0 : flT Tryd.prog 81 0 = some (0, true, 3) := by kernel_rfl
@[go_sem] theorem agT82 : agT Tryd.prog 82 = some (true, 3) := by kernel_rfl
@[go_sem] theorem stT82 : stT Tryd.prog 82 = true := by kernel_rfl
@[go_sem] theorem zrT82 : zrT Tryd.prog 82 = some [Go.Value.slice none 0 0, Go.Value.slice none 0 0, Go.Value.int Go.IntKind.i64 0] := by kernel_rfl
@[go_sem] theorem flT82_0 : flT Tryd.prog 82 0 = some (0, true, 3) := by kernel_rfl
@[go_sem] theorem agT83 : agT Tryd.prog 83 = some (false, 1) := by kernel_rfl
@[go_sem] theorem zrT83 : zrT Tryd.prog 83 = some [Go.Value.nilFunc] := by kernel_rfl
@[go_sem] theorem agT84 : agT Tryd.prog 84 = some (false, 1) := by kernel_rfl
@[go_sem] theorem zrT84 : zrT Tryd.prog 84 = some [Go.Value.nilFunc] := by kernel_rfl
@[go_sem] theorem agT85 : agT Tryd.prog 85 = some (false, 1) := by kernel_rfl
@[go_sem] theorem zrT85 : zrT Tryd.prog 85 = some [Go.Value.nilFunc] := by kernel_rfl
@[go_sem] theorem agT86 : agT Tryd.prog 86 = some (false, 1) := by kernel_rfl
@[go_sem] theorem zrT86 : zrT Tryd.prog 86 = some [Go.Value.nilFunc] := by kernel_rfl
@[go_sem] theorem agT87 : agT Tryd.prog 87 = some (false, 1) := by kernel_rfl
@[go_sem] theorem zrT87 : zrT Tryd.prog 87 = some [Go.Value.nilFunc] := by kernel_rfl
@[go_sem] theorem agT88 : agT Tryd.prog 88 = some (false, 1) := by kernel_rfl
@[go_sem] theorem zrT88 : zrT Tryd.prog 88 = some [Go.Value.nilFunc] := by kernel_rfl
@[go_sem] theorem agT89 : agT Tryd.prog 89 = some (false, 1) := by kernel_rfl
@[go_sem] theorem zrT89 : zrT Tryd.prog 89 = some [Go.Value.nilFunc] := by kernel_rfl
@[go_sem] theorem agT90 : agT Tryd.prog 90 = some (false, 1) := by kernel_rfl
@[go_sem] theorem zrT90 : zrT Tryd.prog 90 = some [Go.Value.nilFunc] := by kernel_rfl
@[go_sem] theorem agT91 : agT Tryd.prog 91 = some (false, 1) := by kernel_rfl
@[go_sem] theorem zrT91 : zrT Tryd.prog 91 = some [Go.Value.nilFunc] := by kernel_rfl
@[go_sem] theorem agT92 : agT Tryd.prog 92 = some (false, 1) := by kernel_rfl
@[go_sem] theorem zrT92 : zrT Tryd.prog 92 = some [Go.Value.nilFunc] := by kernel_rfl
@[go_sem] theorem agT93 : agT Tryd.prog 93 = some (false, 1) := by kernel_rfl
@[go_sem] theorem zrT93 : zrT Tryd.prog 93 = some [Go.Value.int Go.IntKind.u32 0] := by kernel_rfl
@[go_sem] theorem inT93 : inT Tryd.prog 93 = some Go.IntKind.u32 := by kernel_rfl
@[go_sem] theorem agT94 : agT Tryd.prog 94 = some (false, 1) := by kernel_rfl
@[go_sem] theorem zrT94 : zrT Tryd.prog 94 = some [Go.Value.nilFunc] := by kernel_rfl
@[go_sem] theorem agT95 : agT Tryd.prog 95 = some (false, 1) := by kernel_rfl
@[go_sem] theorem zrT95 : zrT Tryd.prog 95 = some [Go.Value.int Go.IntKind.u64 0] := by kernel_rfl
@[go_sem] theorem inT95 : inT Tryd.prog 95 = some Go.IntKind.u64 := by kernel_rfl
@[go_sem] theorem agT96 : agT Tryd.prog 96 = some (false, 1) := by kernel_rfl
@[go_sem] theorem zrT96 : zrT Tryd.prog 96 = some [Go.Value.nilFunc] := by kernel_rfl
@[go_sem] theorem agT97 : agT Tryd.prog 97 = some (false, 1) := by kernel_rfl
@[go_sem] theorem zrT97 : zrT Tryd.prog 97 = some [Go.Value.nilFunc] := by kernel_rfl
@[go_sem] theorem agT98 : agT Tryd.prog 98 = some (false, 1) := by kernel_rfl
@[go_sem] theorem zrT98 : zrT Tryd.prog 98 = some [Go.Value.nilFunc] := by kernel_rfl
@[go_sem] theorem agT99 : agT Tryd.prog 99 = some (false, 1) := by kernel_rfl
@[go_sem] theorem zrT99 : zrT Tryd.prog 99 = some [Go.Value.nilFunc] := by kernel_rfl
@[go_sem] theorem agT100 : agT Tryd.prog 100 = some (false, 1) := by kernel_rfl
@[go_sem] theorem zrT100 : zrT Tryd.prog 100 = some [Go.Value.nilFunc] := by kernel_rfl
@[go_sem] theorem agT101 : agT Tryd.prog 101 = some (false, 1) := by kernel_rfl
@[go_sem] theorem zrT101 : zrT Tryd.prog 101 = some [Go.Value.nilFunc] := by kernel_rfl
@[go_sem] theorem agT102 : agT Tryd.prog 102 = some (false, 1) := by kernel_rfl
@[go_sem] theorem zrT102 : zrT Tryd.prog 102 = some [Go.Value.nilFunc] := by kernel_rfl
@[go_sem] theorem agT103 : agT Tryd.prog 103 = some (true, 32) := by kernel_rfl
@[go_sem] theorem arT103 : arT Tryd.prog 103 = some (32, false, 1) := by kernel_rfl
@[go_sem] theorem agT104 : agT Tryd.prog 104 = some (true, 64) := by kernel_rfl
@[go_sem] theorem arT104 : arT Tryd.prog 104 = some (64, false, 1) := by kernel_rfl
@[go_sem] theorem agT105 : agT Tryd.prog 105 = some (false, 1) := by kernel_rfl
@[go_sem] theorem zrT105 : zrT Tryd.prog 105 = some [Go.Value.nilFunc] := by kernel_rfl
@[go_sem] theorem agT106 : agT Tryd.prog 106 = some (false, 1) := by kernel_rfl
@[go_sem] theorem zrT106 : zrT Tryd.prog 106 = some [Go.Value.nilFunc] := by kernel_rfl
@[go_sem] theorem agT107 : agT Tryd.prog 107 = some (false, 1) := by kernel_rfl
@[go_sem] theorem zrT107 : zrT Tryd.prog 107 = some [Go.Value.int Go.IntKind.i64 0] := by kernel_rfl
@[go_sem] theorem inT107 : inT Tryd.prog 107 = some Go.IntKind.i64 := by kernel_rfl
@[go_sem] theorem agT108 : agT Tryd.prog 108 = some (false, 1) := by kernel_rfl
@[go_sem] theorem zrT108 : zrT Tryd.prog 108 = some [Go.Value.tuple { toList := [Go.Value.int Go.IntKind.i64 0, Go.Value.int Go.IntKind.i64 0] }] := by kernel_rfl
@[go_sem] theorem agT109 : agT Tryd.prog 109 = some (false, 1) := by kernel_rfl
@[go_sem] theorem zrT109 : zrT Tryd.prog 109 = some [Go.Value.nilFunc] := by kernel_rfl
@[go_sem] theorem agT110 : agT Tryd.prog 110 = some (false, 1) := by kernel_rfl
@[go_sem] theorem zrT110 : zrT Tryd.prog 110 = some [Go.Value.nilFunc] := by kernel_rfl
@[go_sem] theorem agT111 : agT Tryd.prog 111 = some (false, 1) := by kernel_rfl
@[go_sem] theorem zrT111 : zrT Tryd.prog 111 = some [Go.Value.nilFunc] := by kernel_rfl
@[go_sem] theorem agT112 : agT Tryd.prog 112 = some (false, 1) := by kernel_rfl
@[go_sem] theorem zrT112 : zrT Tryd.prog 112 = some [Go.Value.tuple { toList := [Go.Value.int Go.IntKind.i64 0, Go.Value.bool false] }] := by kernel_rfl
@[go_sem] theorem agT113 : agT Tryd.prog 113 = some (false, 1) := by kernel_rfl
@[go_sem] theorem zrT113 : zrT Tryd.prog 113 = some [Go.Value.nilFunc] := by kernel_rfl
@[go_sem] theorem agT114 : agT Tryd.prog 114 = some (false, 1) := by kernel_rfl
@[go_sem] theorem zrT114 : zrT Tryd.prog 114 = some [Go.Value.int Go.IntKind.u64 0] := by kernel_rfl
@[go_sem] theorem inT114 : inT Tryd.prog 114 = some Go.IntKind.u64 := by kernel_rfl
@[go_sem] theorem agT115 : agT Tryd.prog 115 = some (false, 1) := by kernel_rfl
@[go_sem] theorem zrT115 : zrT Tryd.prog 115 = some [Go.Value.nilFunc] := by kernel_rfl
@[go_sem] theorem agT116 : agT Tryd.prog 116 = some (false, 1) := by kernel_rfl
@[go_sem] theorem zrT116 : zrT Tryd.prog 116 = some [Go.Value.nilFunc] := by kernel_rfl
@[go_sem] theorem agT117 : agT Tryd.prog 117 = some (false, 1) := by kernel_rfl
@[go_sem] theorem zrT117 : zrT Tryd.prog 117 = some [Go.Value.nilFunc] := by kernel_rfl
@[go_sem] theorem agT118 : agT Tryd.prog 118 = some (false, 1) := by kernel_rfl
@[go_sem] theorem zrT118 : zrT Tryd.prog 118 = some [Go.Value.pointer none] := by kernel_rfl
@[go_sem] theorem agT119 : agT Tryd.prog 119 = some (false, 1) := by kernel_rfl
@[go_sem] theorem zrT119 : zrT Tryd.prog 119 = some [Go.Value.nilFunc] := by kernel_rfl
@[go_sem] theorem agT120 : agT Tryd.prog 120 = some (false, 1) := by kernel_rfl
@[go_sem] theorem zrT120 : zrT Tryd.prog 120 = some [Go.Value.pointer none] := by kernel_rfl
@[go_sem] theorem agT121 : agT Tryd.prog 121 = some (false, 1) := by kernel_rfl
@[go_sem] theorem zrT121 : zrT Tryd.prog 121 = some [Go.Value.nilFunc] := by kernel_rfl
@[go_sem] theorem agT122 : agT Tryd.prog 122 = some (false, 1) := by kernel_rfl
@[go_sem] theorem zrT122 : zrT Tryd.prog 122 = some [Go.Value.nilFunc] := by kernel_rfl
@[go_sem] theorem agT123 : agT Tryd.prog 123 = some (true, 4) := by kernel_rfl
@[go_sem] theorem stT123 : stT Tryd.prog 123 = true := by kernel_rfl
@[go_sem] theorem zrT123 : zrT Tryd.prog 123 = some [Go.Value.pointer none, Go.Value.pointer none, Go.Value.pointer none, Go.Value.string { data := #[] }] := by kernel_rfl
@[go_sem] theorem flT123_0 : flT Tryd.prog 123 0 = some (0, false, 1) := by kernel_rfl
@[go_sem] theorem flT123_1 : flT Tryd.prog 123 1 = some (1, false, 1) := by kernel_rfl
@[go_sem] theorem flT123_2 : flT Tryd.prog 123 2 = some (2, false, 1) := by kernel_rfl
@[go_sem] theorem flT123_3 : flT Tryd.prog 123 3 = some (3, false, 1) := by kernel_rfl
@[go_sem] theorem agT124 : agT Tryd.prog 124 = some (true, 4) := by kernel_rfl
@[go_sem] theorem stT124 : stT Tryd.prog 124 = true := by kernel_rfl
@[go_sem] theorem zrT124 : zrT Tryd.prog 124 = some [Go.Value.pointer none, Go.Value.pointer none, Go.Value.pointer none, Go.Value.string { data := #[] }] := by kernel_rfl
@[go_sem] theorem flT124_0 : flT Tryd.prog 124 0 = some (0, false, 1) := by kernel_rfl
@[go_sem] theorem flT124_1 : flT Tryd.prog 124 1 = some (1, false, 1) := by kernel_rfl
@[go_sem] theorem flT124_2 : flT Tryd.prog 124 2 = some (2, false, 1) := by kernel_rfl
@[go_sem] theorem flT124_3 : flT Tryd.prog 124 3 = some (3, false, 1) := by kernel_rfl
@[go_sem] theorem agT125 : agT Tryd.prog 125 = some (true, 0) := by kernel_rfl
@[go_sem] theorem zrT125 : zrT Tryd.prog 125 = some [] := by kernel_rfl
@[go_sem] theorem arT125 : arT Tryd.prog 125 = some (0, false, 1) := by kernel_rfl
@[go_sem] theorem agT126 : agT Tryd.prog 126 = some (true, 0) := by kernel_rfl
@[go_sem] theorem stT126 : stT Tryd.prog 126 = true := by kernel_rfl
@[go_sem] theorem zrT126 : zrT Tryd.prog 126 = some [] := by kernel_rfl
@[go_sem] theorem agT127 : agT Tryd.prog 127 = some (true, 0) := by kernel_rfl
@[go_sem] theorem stT127 : stT Tryd.prog 127 = true := by kernel_rfl
@[go_sem] theorem zrT127 : zrT Tryd.prog 127 = some [] := by kernel_rfl
@[go_sem] theorem agT128 : agT Tryd.prog 128 = some (false, 1) := by kernel_rfl
@[go_sem] theorem zrT128 : zrT Tryd.prog 128 = some [Go.Value.int Go.IntKind.u8 0] := by kernel_rfl
@[go_sem] theorem inT128 : inT Tryd.prog 128 = some Go.IntKind.u8 := by kernel_rfl
@[go_sem] theorem agT129 : agT Tryd.prog 129 = some (false, 1) := by kernel_rfl
@[go_sem] theorem zrT129 : zrT Tryd.prog 129 = some [Go.Value.int Go.IntKind.u8 0] := by kernel_rfl
@[go_sem] theorem inT129 : inT Tryd.prog 129 = some Go.IntKind.u8 := by kernel_rfl
@[go_sem] theorem agT130 : agT Tryd.prog 130 = some (false, 1) := by kernel_rfl
@[go_sem] theorem zrT130 : zrT Tryd.prog 130 = some [Go.Value.nilFunc] := by kernel_rfl
@[go_sem] theorem agT131 : agT Tryd.prog 131 = some (false, 1) := by kernel_rfl
@[go_sem] theorem zrT131 : zrT Tryd.prog 131 = some [Go.Value.pointer none] := by kernel_rfl
@[go_sem] theorem agT132 : agT Tryd.prog 132 = some (false, 1) := by kernel_rfl
@[go_sem] theorem zrT132 : zrT Tryd.prog 132 = some [Go.Value.int Go.IntKind.i32 0] := by kernel_rfl
@[go_sem] theorem inT132 : inT Tryd.prog 132 = some Go.IntKind.i32 := by kernel_rfl
@[go_sem] theorem agT133 : agT Tryd.prog 133 = some (false, 1) := by kernel_rfl
@[go_sem] theorem zrT133 : zrT Tryd.prog 133 = some [Go.Value.int Go.IntKind.i32 0] := by kernel_rfl
@[go_sem] theorem inT133 : inT Tryd.prog 133 = some Go.IntKind.i32 := by kernel_rfl
@[go_sem] theorem agT134 : agT Tryd.prog 134 = some (true, 11) := by kernel_rfl
@[go_sem] theorem stT134 : stT Tryd.prog 134 = true := by kernel_rfl
@[go_sem] theorem zrT134 : zrT Tryd.prog 134 = some [Go.Value.int Go.IntKind.u64 0, Go.Value.int Go.IntKind.u64 0, Go.Value.int Go.IntKind.u32 0, Go.Value.int Go.IntKind.u8 0, Go.Value.int Go.IntKind.u8 0, Go.Value.int Go.IntKind.u8 0, Go.Value.int Go.IntKind.u8 0, Go.Value.nilFunc, Go.Value.pointer none, Go.Value.int Go.IntKind.i32 0, Go.Value.int Go.IntKind.i32 0] := by kernel_rfl
@[go_sem] theorem flT134_0 : flT Tryd.prog 134 0 = some (0, false, 1) := by kernel_rfl
@[go_sem] theorem flT134_1 : flT Tryd.prog 134 1 = some (1, false, 1) := by kernel_rfl
@[go_sem] theorem flT134_2 : flT Tryd.prog 134 2 = some (2, false, 1) := by kernel_rfl
@[go_sem] theorem flT134_3 : flT Tryd.prog 134 3 = some (3, false, 1) := by kernel_rfl
@[go_sem] theorem flT134_4 : flT Tryd.prog 134 4 = some (4, false, 1) := by kernel_rfl
@[go_sem] theorem flT134_5 : flT Tryd.prog 134 5 = some (5, false, 1) := by kernel_rfl
@[go_sem] theorem flT134_6 : flT Tryd.prog 134 6 = some (6, false, 1) := by kernel_rfl
@[go_sem] theorem flT134_7 : flT Tryd.prog 134 7 = some (7, false, 1) := by kernel_rfl
@[go_sem] theorem flT134_8 : flT Tryd.prog 134 8 = some (8, false, 1) := by kernel_rfl
@[go_sem] theorem flT134_9 : flT Tryd.prog 134 9 = some (9, false, 1) := by kernel_rfl
@[go_sem] theorem flT134_10 : flT Tryd.prog 134 10 = some (10, false, 1) := by kernel_rfl
@[go_sem] theorem agT135 : agT Tryd.prog 135 = some (true, 11) := by kernel_rfl
@[go_sem] theorem stT135 : stT Tryd.prog 135 = true := by kernel_rfl
@[go_sem] theorem zrT135 : zrT Tryd.prog 135 = some [Go.Value.int Go.IntKind.u64 0, Go.Value.int Go.IntKind.u64 0, Go.Value.int Go.IntKind.u32 0, Go.Value.int Go.IntKind.u8 0, Go.Value.int Go.IntKind.u8 0, Go.Value.int Go.IntKind.u8 0, Go.Value.int Go.IntKind.u8 0, Go.Value.nilFunc, Go.Value.pointer none, Go.Value.int Go.IntKind.i32 0, Go.Value.int Go.IntKind.i32 0] := by kernel_rfl
@[go_sem] theorem flT135_0 : flT Tryd.prog 135 0 = some (0, false, 1) := by kernel_rfl
@[go_sem] theorem flT135_1 : flT Tryd.prog 135 1 = some (1, false, 1) := by kernel_rfl
@[go_sem] theorem flT135_2 : flT Tryd.prog 135 2 = some (2, false, 1) := by kernel_rfl
@[go_sem] theorem flT135_3 : flT Tryd.prog 135 3 = some (3, false, 1) := by kernel_rfl
@[go_sem] theorem flT135_4 : flT Tryd.prog 135 4 = some (4, false, 1) := by kernel_rfl
@[go_sem] theorem flT135_5 : flT Tryd.prog 135 5 = some (5, false, 1) := by kernel_rfl
@[go_sem] theorem flT135_6 : flT Tryd.prog 135 6 = some (6, false, 1) := by kernel_rfl
@[go_sem] theorem flT135_7 : flT Tryd.prog 135 7 = some (7, false, 1) := by kernel_rfl
@[go_sem] theorem flT135_8 : flT Tryd.prog 135 8 = some (8, false, 1) := by kernel_rfl
@[go_sem] theorem flT135_9 : flT Tryd.prog 135 9 = some (9, false, 1) := by kernel_rfl
@[go_sem] theorem flT135_10 : flT Tryd.prog 135 10 = some (10, false, 1) := by kernel_rfl
@[go_sem] theorem agT136 : agT Tryd.prog 136 = some (false, 1) := by kernel_rfl
@[go_sem] theorem zrT136 : zrT Tryd.prog 136 = some [Go.Value.pointer none] := by kernel_rfl
end Go.Proofs.Tryd
