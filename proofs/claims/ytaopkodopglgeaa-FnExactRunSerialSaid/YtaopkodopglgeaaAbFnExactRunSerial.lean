import Derived.Test.YtaopkodopglgeaaProg
import Derived.Test.YtaopkodopglgeaaAbC
namespace Go.Ab.FnExactRunSerial
open Go.RowKit
set_option linter.unusedVariables false
set_option maxRecDepth 100000
noncomputable def tds : List (Option TD) := [
  none,
  some ⟨.other, 1, .opq, 8, false⟩,
  some ⟨.int .i64, 1, .int .i64, 8, false⟩,
  some ⟨.int .i64, 1, .int .i64, 8, false⟩,
  some ⟨.bool, 1, .bool, 1, false⟩,
  some ⟨.int .u8, 1, .int .u8, 1, false⟩,
  some ⟨.int .u8, 1, .int .u8, 1, false⟩,
  some ⟨.struct [(0, 2), (1, 3), (2, 4), (3, 6)], 4, .pair (.int .i64) (.pair (.int .i64) (.pair (.bool) (.int .u8))), 24, true⟩,
  some ⟨.struct [(0, 2), (1, 3), (2, 4), (3, 6)], 4, .pair (.int .i64) (.pair (.int .i64) (.pair (.bool) (.int .u8))), 24, true⟩,
  some ⟨.str, 1, .str, 16, false⟩,
  some ⟨.str, 1, .str, 16, false⟩,
  some ⟨.str, 1, .str, 16, false⟩,
  some ⟨.int .u64, 1, .int .u64, 8, false⟩,
  none,
  none,
  some ⟨.ptr 215, 1, .opq, 8, false⟩,
  some ⟨.ptr 218, 1, .opq, 8, false⟩,
  some ⟨.ptr 228, 1, .opq, 8, false⟩,
  some ⟨.struct [(0, 17)], 1, .opq, 8, true⟩,
  some ⟨.struct [(0, 17)], 1, .opq, 8, true⟩,
  none,
  some ⟨.int .i32, 1, .int .i32, 4, false⟩,
  some ⟨.slice 177, 1, .slice (.pair (.int .i64) (.pair (.int .i64) (.pair (.int .i64) (.pair (.int .i64) (.bool))))), 24, false⟩,
  some ⟨.struct [(0, 22), (1, 2)], 2, .pair (.slice (.pair (.int .i64) (.pair (.int .i64) (.pair (.int .i64) (.pair (.int .i64) (.bool)))))) (.int .i64), 32, true⟩,
  some ⟨.struct [(0, 22), (1, 2)], 2, .pair (.slice (.pair (.int .i64) (.pair (.int .i64) (.pair (.int .i64) (.pair (.int .i64) (.bool)))))) (.int .i64), 32, true⟩,
  some ⟨.other, 1, .opq, 8, false⟩,
  some ⟨.struct [(0, 4), (1, 2), (2, 2)], 3, .pair (.bool) (.pair (.int .i64) (.int .i64)), 24, true⟩,
  some ⟨.struct [(0, 4), (1, 2), (2, 2)], 3, .pair (.bool) (.pair (.int .i64) (.int .i64)), 24, true⟩,
  some ⟨.other, 1, .opq, 8, false⟩,
  some ⟨.slice 50, 1, .slice (.pair (.int .i64) (.pair (.int .i64) (.pair (.int .i64) (.pair (.int .i64) (.bool))))), 24, false⟩,
  some ⟨.struct [(0, 29), (1, 2)], 2, .pair (.slice (.pair (.int .i64) (.pair (.int .i64) (.pair (.int .i64) (.pair (.int .i64) (.bool)))))) (.int .i64), 32, true⟩,
  some ⟨.struct [(0, 29), (1, 2)], 2, .pair (.slice (.pair (.int .i64) (.pair (.int .i64) (.pair (.int .i64) (.pair (.int .i64) (.bool)))))) (.int .i64), 32, true⟩,
  some ⟨.other, 1, .opq, 8, false⟩,
  some ⟨.other, 1, .opq, 8, false⟩,
  some ⟨.other, 1, .opq, 8, false⟩,
  some ⟨.other, 1, .opq, 8, false⟩,
  some ⟨.other, 1, .opq, 8, false⟩,
  some ⟨.other, 1, .opq, 8, false⟩,
  some ⟨.other, 1, .opq, 8, false⟩,
  some ⟨.slice 5, 1, .slice (.int .u8), 24, false⟩,
  none,
  some ⟨.other, 1, .opq, 8, false⟩,
  some ⟨.other, 1, .opq, 8, false⟩,
  some ⟨.slice 2, 1, .slice (.int .i64), 24, false⟩,
  some ⟨.struct [(0, 2), (1, 2), (2, 2), (3, 4), (4, 43), (5, 9)], 6, .pair (.int .i64) (.pair (.int .i64) (.pair (.int .i64) (.pair (.bool) (.pair (.slice (.int .i64)) (.str))))), 72, true⟩,
  some ⟨.struct [(0, 2), (1, 2), (2, 2), (3, 4), (4, 43), (5, 9)], 6, .pair (.int .i64) (.pair (.int .i64) (.pair (.int .i64) (.pair (.bool) (.pair (.slice (.int .i64)) (.str))))), 72, true⟩,
  some ⟨.other, 1, .opq, 8, false⟩,
  some ⟨.other, 1, .opq, 8, false⟩,
  some ⟨.int .u64, 1, .int .u64, 8, false⟩,
  some ⟨.struct [(0, 2), (1, 2), (2, 2), (3, 2), (4, 4)], 5, .pair (.int .i64) (.pair (.int .i64) (.pair (.int .i64) (.pair (.int .i64) (.bool)))), 40, true⟩,
  some ⟨.struct [(0, 2), (1, 2), (2, 2), (3, 2), (4, 4)], 5, .pair (.int .i64) (.pair (.int .i64) (.pair (.int .i64) (.pair (.int .i64) (.bool)))), 40, true⟩,
  some ⟨.other, 1, .opq, 8, false⟩,
  some ⟨.other, 1, .opq, 8, false⟩,
  some ⟨.struct [(0, 9), (1, 9), (2, 2), (3, 4)], 4, .pair (.str) (.pair (.str) (.pair (.int .i64) (.bool))), 48, true⟩,
  some ⟨.struct [(0, 9), (1, 9), (2, 2), (3, 4)], 4, .pair (.str) (.pair (.str) (.pair (.int .i64) (.bool))), 48, true⟩,
  some ⟨.slice 140, 1, .slice (.pair (.int .i64) (.pair (.int .i64) (.pair (.int .i64) (.str)))), 24, false⟩,
  some ⟨.other, 1, .opq, 8, false⟩,
  some ⟨.other, 1, .opq, 8, false⟩,
  some ⟨.struct [(0, 9), (1, 9), (2, 2), (3, 4)], 4, .pair (.str) (.pair (.str) (.pair (.int .i64) (.bool))), 48, true⟩,
  some ⟨.slice 74, 1, .slice (.pair (.int .i64) (.pair (.int .i64) (.bool))), 24, false⟩,
  some ⟨.struct [(0, 2), (1, 58), (5, 59)], 6, .pair (.int .i64) (.pair (.str) (.pair (.str) (.pair (.int .i64) (.pair (.bool) (.slice (.pair (.int .i64) (.pair (.int .i64) (.bool)))))))), 80, true⟩,
  some ⟨.struct [(0, 2), (1, 58), (5, 59)], 6, .pair (.int .i64) (.pair (.str) (.pair (.str) (.pair (.int .i64) (.pair (.bool) (.slice (.pair (.int .i64) (.pair (.int .i64) (.bool)))))))), 80, true⟩,
  some ⟨.other, 1, .opq, 8, false⟩,
  some ⟨.other, 1, .opq, 8, false⟩,
  some ⟨.slice 76, 1, .slice (.pair (.int .i64) (.pair (.int .i64) (.pair (.int .i64) (.str)))), 24, false⟩,
  some ⟨.other, 1, .opq, 8, false⟩,
  some ⟨.other, 1, .opq, 8, false⟩,
  some ⟨.other, 1, .opq, 8, false⟩,
  some ⟨.other, 1, .opq, 8, false⟩,
  some ⟨.other, 1, .opq, 8, false⟩,
  some ⟨.other, 1, .opq, 8, false⟩,
  none,
  some ⟨.other, 1, .opq, 8, false⟩,
  some ⟨.struct [(0, 2), (1, 2), (2, 4)], 3, .pair (.int .i64) (.pair (.int .i64) (.bool)), 24, true⟩,
  some ⟨.struct [(0, 2), (1, 2), (2, 4)], 3, .pair (.int .i64) (.pair (.int .i64) (.bool)), 24, true⟩,
  some ⟨.struct [(0, 2), (1, 2), (2, 2), (3, 9)], 4, .pair (.int .i64) (.pair (.int .i64) (.pair (.int .i64) (.str))), 40, true⟩,
  some ⟨.struct [(0, 2), (1, 2), (2, 2), (3, 9)], 4, .pair (.int .i64) (.pair (.int .i64) (.pair (.int .i64) (.str))), 40, true⟩,
  some ⟨.other, 1, .opq, 8, false⟩,
  some ⟨.slice 162, 1, .slice (.pair (.int .i64) (.pair (.int .i64) (.int .i64))), 24, false⟩,
  some ⟨.struct [(0, 2), (1, 2), (2, 2), (3, 2), (4, 2), (5, 4), (6, 78)], 7, .pair (.int .i64) (.pair (.int .i64) (.pair (.int .i64) (.pair (.int .i64) (.pair (.int .i64) (.pair (.bool) (.slice (.pair (.int .i64) (.pair (.int .i64) (.int .i64))))))))), 72, true⟩,
  some ⟨.struct [(0, 2), (1, 2), (2, 2), (3, 2), (4, 2), (5, 4), (6, 78)], 7, .pair (.int .i64) (.pair (.int .i64) (.pair (.int .i64) (.pair (.int .i64) (.pair (.int .i64) (.pair (.bool) (.slice (.pair (.int .i64) (.pair (.int .i64) (.int .i64))))))))), 72, true⟩,
  some ⟨.slice 164, 1, .slice (.pair (.int .i64) (.pair (.int .i64) (.pair (.int .i64) (.pair (.int .i64) (.pair (.int .i64) (.pair (.int .i64) (.int .i64))))))), 24, false⟩,
  some ⟨.other, 1, .opq, 8, false⟩,
  some ⟨.other, 1, .opq, 8, false⟩,
  some ⟨.slice 105, 1, .slice (.pair (.int .i64) (.pair (.int .i64) (.int .i64))), 24, false⟩,
  some ⟨.struct [(0, 2), (1, 2), (2, 2), (3, 2), (4, 2), (5, 4), (6, 84)], 7, .pair (.int .i64) (.pair (.int .i64) (.pair (.int .i64) (.pair (.int .i64) (.pair (.int .i64) (.pair (.bool) (.slice (.pair (.int .i64) (.pair (.int .i64) (.int .i64))))))))), 72, true⟩,
  some ⟨.struct [(0, 2), (1, 2), (2, 2), (3, 2), (4, 2), (5, 4), (6, 84)], 7, .pair (.int .i64) (.pair (.int .i64) (.pair (.int .i64) (.pair (.int .i64) (.pair (.int .i64) (.pair (.bool) (.slice (.pair (.int .i64) (.pair (.int .i64) (.int .i64))))))))), 72, true⟩,
  some ⟨.slice 157, 1, .slice (.pair (.int .i64) (.pair (.int .i64) (.slice (.int .i64)))), 24, false⟩,
  some ⟨.struct [(0, 2), (1, 86), (8, 87)], 9, .pair (.int .i64) (.pair (.int .i64) (.pair (.int .i64) (.pair (.int .i64) (.pair (.int .i64) (.pair (.int .i64) (.pair (.bool) (.pair (.slice (.pair (.int .i64) (.pair (.int .i64) (.int .i64)))) (.slice (.pair (.int .i64) (.pair (.int .i64) (.slice (.int .i64)))))))))))), 104, true⟩,
  some ⟨.struct [(0, 2), (1, 86), (8, 87)], 9, .pair (.int .i64) (.pair (.int .i64) (.pair (.int .i64) (.pair (.int .i64) (.pair (.int .i64) (.pair (.int .i64) (.pair (.bool) (.pair (.slice (.pair (.int .i64) (.pair (.int .i64) (.int .i64)))) (.slice (.pair (.int .i64) (.pair (.int .i64) (.slice (.int .i64)))))))))))), 104, true⟩,
  some ⟨.other, 1, .opq, 8, false⟩,
  some ⟨.other, 1, .opq, 8, false⟩,
  some ⟨.slice 107, 1, .slice (.pair (.int .i64) (.pair (.int .i64) (.pair (.int .i64) (.pair (.int .i64) (.pair (.int .i64) (.pair (.int .i64) (.int .i64))))))), 24, false⟩,
  some ⟨.other, 1, .opq, 8, false⟩,
  some ⟨.other, 1, .opq, 8, false⟩,
  some ⟨.other, 1, .opq, 8, false⟩,
  some ⟨.other, 1, .opq, 8, false⟩,
  some ⟨.other, 1, .opq, 8, false⟩,
  some ⟨.other, 1, .opq, 8, false⟩,
  some ⟨.other, 1, .opq, 8, false⟩,
  some ⟨.other, 1, .opq, 8, false⟩,
  some ⟨.other, 1, .opq, 8, false⟩,
  some ⟨.other, 1, .opq, 8, false⟩,
  some ⟨.other, 1, .opq, 8, false⟩,
  some ⟨.struct [(0, 2), (1, 2), (2, 2)], 3, .pair (.int .i64) (.pair (.int .i64) (.int .i64)), 24, true⟩,
  some ⟨.struct [(0, 2), (1, 2), (2, 2)], 3, .pair (.int .i64) (.pair (.int .i64) (.int .i64)), 24, true⟩,
  some ⟨.struct [(0, 2), (1, 2), (2, 2), (3, 2), (4, 105)], 7, .pair (.int .i64) (.pair (.int .i64) (.pair (.int .i64) (.pair (.int .i64) (.pair (.int .i64) (.pair (.int .i64) (.int .i64)))))), 56, true⟩,
  some ⟨.struct [(0, 2), (1, 2), (2, 2), (3, 2), (4, 105)], 7, .pair (.int .i64) (.pair (.int .i64) (.pair (.int .i64) (.pair (.int .i64) (.pair (.int .i64) (.pair (.int .i64) (.int .i64)))))), 56, true⟩,
  some ⟨.other, 1, .opq, 8, false⟩,
  some ⟨.other, 1, .opq, 8, false⟩,
  some ⟨.other, 1, .opq, 8, false⟩,
  some ⟨.other, 1, .opq, 8, false⟩,
  some ⟨.other, 1, .opq, 8, false⟩,
  some ⟨.other, 1, .opq, 8, false⟩,
  some ⟨.other, 1, .opq, 8, false⟩,
  some ⟨.other, 1, .opq, 8, false⟩,
  some ⟨.other, 1, .opq, 8, false⟩,
  some ⟨.other, 1, .opq, 8, false⟩,
  some ⟨.other, 1, .opq, 8, false⟩,
  some ⟨.other, 1, .opq, 8, false⟩,
  some ⟨.ptr 154, 1, .opq, 8, false⟩,
  some ⟨.other, 1, .opq, 8, false⟩,
  some ⟨.other, 1, .opq, 8, false⟩,
  some ⟨.other, 1, .opq, 8, false⟩,
  some ⟨.other, 1, .opq, 8, false⟩,
  some ⟨.other, 1, .opq, 8, false⟩,
  some ⟨.other, 1, .opq, 8, false⟩,
  none,
  some ⟨.other, 1, .opq, 8, false⟩,
  some ⟨.other, 1, .opq, 8, false⟩,
  some ⟨.other, 1, .opq, 8, false⟩,
  some ⟨.arr 2 2, 2, .pair (.int .i64) (.int .i64), 16, true⟩,
  some ⟨.struct [(0, 2), (1, 2), (2, 2), (3, 2), (4, 2), (5, 4), (6, 131), (8, 3)], 9, .pair (.int .i64) (.pair (.int .i64) (.pair (.int .i64) (.pair (.int .i64) (.pair (.int .i64) (.pair (.bool) (.pair (.int .i64) (.pair (.int .i64) (.int .i64)))))))), 72, true⟩,
  some ⟨.struct [(0, 2), (1, 2), (2, 2), (3, 2), (4, 2), (5, 4), (6, 131), (8, 3)], 9, .pair (.int .i64) (.pair (.int .i64) (.pair (.int .i64) (.pair (.int .i64) (.pair (.int .i64) (.pair (.bool) (.pair (.int .i64) (.pair (.int .i64) (.int .i64)))))))), 72, true⟩,
  some ⟨.other, 1, .opq, 8, false⟩,
  some ⟨.other, 1, .opq, 8, false⟩,
  some ⟨.other, 1, .opq, 8, false⟩,
  some ⟨.other, 1, .opq, 8, false⟩,
  some ⟨.other, 1, .opq, 8, false⟩,
  some ⟨.other, 1, .opq, 8, false⟩,
  some ⟨.struct [(0, 2), (1, 2), (2, 2), (3, 9)], 4, .pair (.int .i64) (.pair (.int .i64) (.pair (.int .i64) (.str))), 40, true⟩,
  none,
  some ⟨.other, 1, .opq, 8, false⟩,
  some ⟨.other, 1, .opq, 8, false⟩,
  none,
  some ⟨.other, 1, .opq, 8, false⟩,
  some ⟨.other, 1, .opq, 8, false⟩,
  some ⟨.other, 1, .opq, 8, false⟩,
  some ⟨.other, 1, .opq, 8, false⟩,
  some ⟨.other, 1, .opq, 8, false⟩,
  some ⟨.other, 1, .opq, 8, false⟩,
  some ⟨.other, 1, .opq, 8, false⟩,
  some ⟨.int .u64, 1, .int .u64, 8, false⟩,
  some ⟨.struct [(0, 39), (1, 3), (2, 152), (3, 2)], 4, .pair (.slice (.int .u8)) (.pair (.int .i64) (.pair (.int .u64) (.int .i64))), 48, true⟩,
  some ⟨.struct [(0, 39), (1, 3), (2, 152), (3, 2)], 4, .pair (.slice (.int .u8)) (.pair (.int .i64) (.pair (.int .u64) (.int .i64))), 48, true⟩,
  some ⟨.other, 1, .opq, 8, false⟩,
  some ⟨.struct [(0, 2), (1, 2), (2, 43)], 3, .pair (.int .i64) (.pair (.int .i64) (.slice (.int .i64))), 40, true⟩,
  some ⟨.struct [(0, 2), (1, 2), (2, 43)], 3, .pair (.int .i64) (.pair (.int .i64) (.slice (.int .i64))), 40, true⟩,
  none,
  some ⟨.other, 1, .opq, 8, false⟩,
  some ⟨.other, 1, .opq, 8, false⟩,
  some ⟨.other, 1, .opq, 8, false⟩,
  some ⟨.struct [(0, 2), (1, 2), (2, 2)], 3, .pair (.int .i64) (.pair (.int .i64) (.int .i64)), 24, true⟩,
  some ⟨.struct [(0, 2), (1, 2), (2, 2), (3, 2), (4, 162)], 7, .pair (.int .i64) (.pair (.int .i64) (.pair (.int .i64) (.pair (.int .i64) (.pair (.int .i64) (.pair (.int .i64) (.int .i64)))))), 56, true⟩,
  some ⟨.struct [(0, 2), (1, 2), (2, 2), (3, 2), (4, 162)], 7, .pair (.int .i64) (.pair (.int .i64) (.pair (.int .i64) (.pair (.int .i64) (.pair (.int .i64) (.pair (.int .i64) (.int .i64)))))), 56, true⟩,
  some ⟨.other, 1, .opq, 8, false⟩,
  none,
  some ⟨.other, 1, .opq, 8, false⟩,
  some ⟨.other, 1, .opq, 8, false⟩,
  some ⟨.other, 1, .opq, 8, false⟩,
  some ⟨.other, 1, .opq, 8, false⟩,
  some ⟨.other, 1, .opq, 8, false⟩,
  some ⟨.other, 1, .opq, 8, false⟩,
  some ⟨.other, 1, .opq, 8, false⟩,
  some ⟨.other, 1, .opq, 8, false⟩,
  some ⟨.other, 1, .opq, 8, false⟩,
  some ⟨.other, 1, .opq, 8, false⟩,
  some ⟨.struct [(0, 2), (1, 2), (2, 2), (3, 2), (4, 4)], 5, .pair (.int .i64) (.pair (.int .i64) (.pair (.int .i64) (.pair (.int .i64) (.bool)))), 40, true⟩,
  some ⟨.slice 205, 1, .slice (.pair (.int .i64) (.pair (.int .i64) (.pair (.int .i64) (.bool)))), 24, false⟩,
  some ⟨.other, 1, .opq, 8, false⟩,
  some ⟨.struct [(0, 2), (1, 2), (2, 9), (3, 43)], 4, .pair (.int .i64) (.pair (.int .i64) (.pair (.str) (.slice (.int .i64)))), 56, true⟩,
  some ⟨.struct [(0, 2), (1, 2), (2, 9), (3, 43)], 4, .pair (.int .i64) (.pair (.int .i64) (.pair (.str) (.slice (.int .i64)))), 56, true⟩,
  some ⟨.other, 1, .opq, 8, false⟩,
  some ⟨.other, 1, .opq, 8, false⟩,
  some ⟨.struct [(0, 4), (1, 2)], 2, .pair (.bool) (.int .i64), 16, true⟩,
  some ⟨.struct [(0, 4), (1, 2)], 2, .pair (.bool) (.int .i64), 16, true⟩,
  some ⟨.other, 1, .opq, 8, false⟩,
  some ⟨.other, 1, .opq, 8, false⟩,
  some ⟨.other, 1, .opq, 8, false⟩,
  some ⟨.ptr 133, 1, .opq, 8, false⟩,
  some ⟨.other, 1, .opq, 8, false⟩,
  some ⟨.other, 1, .opq, 8, false⟩,
  some ⟨.other, 1, .opq, 8, false⟩,
  some ⟨.ptr 58, 1, .opq, 8, false⟩,
  some ⟨.other, 1, .opq, 8, false⟩,
  some ⟨.other, 1, .opq, 8, false⟩,
  some ⟨.other, 1, .opq, 8, false⟩,
  some ⟨.other, 1, .opq, 8, false⟩,
  some ⟨.ptr 86, 1, .opq, 8, false⟩,
  some ⟨.other, 1, .opq, 8, false⟩,
  some ⟨.other, 1, .opq, 8, false⟩,
  some ⟨.other, 1, .opq, 8, false⟩,
  some ⟨.other, 1, .opq, 8, false⟩,
  some ⟨.other, 1, .opq, 8, false⟩,
  some ⟨.struct [(0, 2), (1, 2), (2, 2), (3, 4)], 4, .pair (.int .i64) (.pair (.int .i64) (.pair (.int .i64) (.bool))), 32, true⟩,
  some ⟨.struct [(0, 2), (1, 2), (2, 2), (3, 4)], 4, .pair (.int .i64) (.pair (.int .i64) (.pair (.int .i64) (.bool))), 32, true⟩,
  some ⟨.other, 1, .opq, 8, false⟩,
  none,
  some ⟨.other, 1, .opq, 8, false⟩,
  some ⟨.other, 1, .opq, 8, false⟩,
  none,
  some ⟨.other, 1, .opq, 8, false⟩,
  some ⟨.other, 1, .opq, 8, false⟩,
  some ⟨.other, 1, .opq, 8, false⟩,
  some ⟨.struct [(0, 17), (1, 17), (2, 17), (3, 9)], 4, .pair (.opq) (.pair (.opq) (.pair (.opq) (.str))), 40, true⟩,
  some ⟨.struct [(0, 17), (1, 17), (2, 17), (3, 9)], 4, .pair (.opq) (.pair (.opq) (.pair (.opq) (.str))), 40, true⟩,
  none,
  none,
  none,
  some ⟨.other, 1, .opq, 8, false⟩,
  some ⟨.int .u32, 1, .int .u32, 4, false⟩,
  some ⟨.int .u8, 1, .int .u8, 1, false⟩,
  some ⟨.int .u8, 1, .int .u8, 1, false⟩,
  some ⟨.other, 1, .opq, 8, false⟩,
  some ⟨.ptr 5, 1, .opq, 8, false⟩,
  some ⟨.int .i32, 1, .int .i32, 4, false⟩,
  some ⟨.int .i32, 1, .int .i32, 4, false⟩,
  some ⟨.struct [(0, 12), (1, 12), (2, 220), (3, 221), (4, 5), (5, 5), (6, 222), (7, 223), (8, 224), (9, 225), (10, 226)], 11, .pair (.int .u64) (.pair (.int .u64) (.pair (.int .u32) (.pair (.int .u8) (.pair (.int .u8) (.pair (.int .u8) (.pair (.int .u8) (.pair (.opq) (.pair (.opq) (.pair (.int .i32) (.int .i32)))))))))), 48, true⟩,
  some ⟨.struct [(0, 12), (1, 12), (2, 220), (3, 221), (4, 5), (5, 5), (6, 222), (7, 223), (8, 224), (9, 225), (10, 226)], 11, .pair (.int .u64) (.pair (.int .u64) (.pair (.int .u32) (.pair (.int .u8) (.pair (.int .u8) (.pair (.int .u8) (.pair (.int .u8) (.pair (.opq) (.pair (.opq) (.pair (.int .i32) (.int .i32)))))))))), 48, true⟩,
  some ⟨.other, 1, .opq, 8, false⟩]
noncomputable def D : TypeId → Option TD := nthD tds
theorem tdsOk : okTds Go.Proofs.Try.prog (nthD tds) 0 tds = true := by kernel_rfl
theorem dok : Dok Go.Proofs.Try.prog D := dok_of tdsOk
theorem mixed : Go.Proofs.Try.prog.follows .mixedOrders = true := by kernel_rfl
abbrev R1 : Ty := .pair (.int .i64) (.pair (.int .i64) (.pair (.int .i64) (.str)))
abbrev R2 : Ty := .pair (.int .i64) (.pair (.int .i64) (.bool))
/-! ### loop.example/g00038/laws.szSerial -/
noncomputable def laws_szSerial.E : Env := ⟨D, [], [], []⟩
noncomputable def laws_szSerial (a0 : ByteArray) (a1 : ByteArray) (a2 : Int) (a3 : Bool) (a4 : Int) : Option (Int × Unit) :=
  let x1 : Int := (wrap64 (a4 - (a0.size : Int)))
  bif decide (x1 < 0) then
    some (-1, ())
  else
    let x2 : Int := (wrap64 (x1 - (a1.size : Int)))
    bif decide (x2 < 0) then
      some (-1, ())
    else
      some (x2, ())
noncomputable def laws_szSerial.ent : Entry := ⟨[false, false], [.agg [.val .bor (.str), .val .bor (.str), .val .bor (.int .i64), .val .bor (.bool)], .cell (.val .bor (.int .i64))], [.cell (.val .bor (.int .i64))], [], fun v => laws_szSerial v.1 v.2.1 v.2.2.1 v.2.2.2.1 v.2.2.2.2.1⟩
theorem laws_szSerial.eq : ∀ v, evFn laws_szSerial.E Go.Proofs.Try.f27 laws_szSerial.ent.ptrs laws_szSerial.ent.ins laws_szSerial.ent.rets laws_szSerial.ent.outs v = laws_szSerial.ent.f v := by intro v; kernel_rfl
theorem laws_szSerial.fok : ∀ q ∈ ([] : List (Nat × Entry)), EntryOK Go.Proofs.Try.prog q.1 q.2 := by intro q hq; simp at hq
theorem laws_szSerial.ls : loopsOf (bodyOf Go.Proofs.Try.f27) = [] := by kernel_rfl
theorem laws_szSerial.at_ : Go.Proofs.Try.prog.funcs[27]? = some Go.Proofs.Try.f27 := by kernel_rfl
theorem laws_szSerial.bd : Go.Proofs.Try.f27.body = some (bodyOf Go.Proofs.Try.f27) := by kernel_rfl
theorem laws_szSerial.nm : Go.Proofs.Try.f27.name ≠ "runtime.NumGoroutine" := by decide
theorem laws_szSerial.ok : EntryOK Go.Proofs.Try.prog 27 laws_szSerial.ent :=
  entry_ok (E := laws_szSerial.E) (EnvOK.of dok laws_szSerial.fok) mixed laws_szSerial.at_ laws_szSerial.bd laws_szSerial.nm laws_szSerial.ls (by intro l hl; simp at hl) laws_szSerial.eq
/-! ### loop.example/g00038/laws.szSerialOp -/
noncomputable def laws_szSerialOp.E : Env := ⟨D, [], [], []⟩
noncomputable def laws_szSerialOp (a0 : Int) (a1 : Int) (a2 : Int) (a3 : ByteArray) (a4 : Int) : Option (Int × Unit) :=
  let x1 : Int := (wrap64 (a4 - (a3.size : Int)))
  bif decide (x1 < 0) then
    some (-1, ())
  else
    some (x1, ())
noncomputable def laws_szSerialOp.ent : Entry := ⟨[false, false], [.agg [.val .bor (.int .i64), .val .bor (.int .i64), .val .bor (.int .i64), .val .bor (.str)], .cell (.val .bor (.int .i64))], [.cell (.val .bor (.int .i64))], [], fun v => laws_szSerialOp v.1 v.2.1 v.2.2.1 v.2.2.2.1 v.2.2.2.2.1⟩
theorem laws_szSerialOp.eq : ∀ v, evFn laws_szSerialOp.E Go.Proofs.Try.f91 laws_szSerialOp.ent.ptrs laws_szSerialOp.ent.ins laws_szSerialOp.ent.rets laws_szSerialOp.ent.outs v = laws_szSerialOp.ent.f v := by intro v; kernel_rfl
theorem laws_szSerialOp.fok : ∀ q ∈ ([] : List (Nat × Entry)), EntryOK Go.Proofs.Try.prog q.1 q.2 := by intro q hq; simp at hq
theorem laws_szSerialOp.ls : loopsOf (bodyOf Go.Proofs.Try.f91) = [] := by kernel_rfl
theorem laws_szSerialOp.at_ : Go.Proofs.Try.prog.funcs[91]? = some Go.Proofs.Try.f91 := by kernel_rfl
theorem laws_szSerialOp.bd : Go.Proofs.Try.f91.body = some (bodyOf Go.Proofs.Try.f91) := by kernel_rfl
theorem laws_szSerialOp.nm : Go.Proofs.Try.f91.name ≠ "runtime.NumGoroutine" := by decide
theorem laws_szSerialOp.ok : EntryOK Go.Proofs.Try.prog 91 laws_szSerialOp.ent :=
  entry_ok (E := laws_szSerialOp.E) (EnvOK.of dok laws_szSerialOp.fok) mixed laws_szSerialOp.at_ laws_szSerialOp.bd laws_szSerialOp.nm laws_szSerialOp.ls (by intro l hl; simp at hl) laws_szSerialOp.eq
/-! ### loop.example/g00038/laws.szSerialOpS -/
noncomputable def laws_szSerialOpS.E5 : Env := ⟨D, [], [(91, laws_szSerialOp.ent)], []⟩
noncomputable def laws_szSerialOpS_l5_step (rec : (List (Int × Int × Int × ByteArray)) → Int → Int → Option ((Int × Unit) ⊕ (Int × Unit))) (y0 : List (Int × Int × Int × ByteArray)) (y1 : Int) (y2 : Int) : Option ((Int × Unit) ⊕ (Int × Unit)) :=
  let b2 : Bool := decide (y2 < (y0.length : Int))
  bif b2 then
    let e3 : Int × Int × Int × ByteArray := rd R1 y0 y2
    (laws_szSerialOp e3.1 e3.2.1 e3.2.2.1 e3.2.2.2 y1).bind fun r4 =>
    bif decide (0 ≤ y2) && decide (y2 < (y0.length : Int)) then
      bif decide (r4.1 < 0) then
        some (Sum.inl (-1, ()))
      else
        rec y0 r4.1 (wrap64 (y2 + 1))
    else none
  else
    some (Sum.inr (y1, ()))
noncomputable def laws_szSerialOpS_l5 : Nat → (List (Int × Int × Int × ByteArray)) → Int → Int → Option ((Int × Unit) ⊕ (Int × Unit))
  | 0 => fun _ _ _ => none
  | n + 1 => laws_szSerialOpS_l5_step (laws_szSerialOpS_l5 n)
noncomputable def laws_szSerialOpS_l5.ent : LEntry := ⟨(.cell (.val .bor (.slice (.pair (.int .i64) (.pair (.int .i64) (.pair (.int .i64) (.str)))))) :: (.cell (.val .bor (.int .i64)) :: (sk 3 (.cell (.val .bor (.int .i64)) :: (sk 21 []))))), rk 27 [], [], [], [⟨none, sk 4 (.cell (.val .bor (.int .i64)) :: (sk 22 [])), rk 27 [], [], []⟩, ⟨some 0, sk 1 (.cell (.val .bor (.int .i64)) :: (sk 25 [])), rk 27 [], [], []⟩], fun v => laws_szSerialOpS_l5 K0 v.1 v.2.1 v.2.2.1⟩
theorem laws_szSerialOpS_l5.eq : ∀ rec v, evStep laws_szSerialOpS.E5 (bodyAt 5 Go.Proofs.Try.f28) laws_szSerialOpS_l5.ent.ins laws_szSerialOpS_l5.ent.rts laws_szSerialOpS_l5.ent.hm laws_szSerialOpS_l5.ent.nl laws_szSerialOpS_l5.ent.xs rec v = laws_szSerialOpS_l5_step (fun c0 c1 c2 => rec (c0, c1, c2, ())) v.1 v.2.1 v.2.2.1 := by intro rec v; kernel_rfl
noncomputable def laws_szSerialOpS.E : Env := ⟨D, [], [(91, laws_szSerialOp.ent)], [(5, laws_szSerialOpS_l5.ent)]⟩
noncomputable def laws_szSerialOpS (a0 : List (Int × Int × Int × ByteArray)) (a1 : Int) : Option (Int × Unit) :=
  let x1 : Int := (wrap64 (a1 - (a0.length : Int)))
  bif decide (x1 < 0) then
    some (-1, ())
  else
    (laws_szSerialOpS_l5 K0 a0 x1 0).bind fun o5 =>
    match o5 with
    | Sum.inl p6 =>
      some (p6.1, ())
    | Sum.inr p7 =>
      some (p7.1, ())
noncomputable def laws_szSerialOpS.ent : Entry := ⟨[false, false], [.cell (.val .bor (.slice (.pair (.int .i64) (.pair (.int .i64) (.pair (.int .i64) (.str)))))), .cell (.val .bor (.int .i64))], [.cell (.val .bor (.int .i64))], [], fun v => laws_szSerialOpS v.1 v.2.1⟩
theorem laws_szSerialOpS.eq : ∀ v, evFn laws_szSerialOpS.E Go.Proofs.Try.f28 laws_szSerialOpS.ent.ptrs laws_szSerialOpS.ent.ins laws_szSerialOpS.ent.rets laws_szSerialOpS.ent.outs v = laws_szSerialOpS.ent.f v := by intro v; kernel_rfl
theorem laws_szSerialOpS.fok : ∀ q ∈ [((91 : Nat), laws_szSerialOp.ent)], EntryOK Go.Proofs.Try.prog q.1 q.2 := by
  intro q hq
  simp only [List.mem_cons, List.mem_nil_iff, or_false] at hq
  rcases hq with rfl
  · exact laws_szSerialOp.ok
theorem laws_szSerialOpS_l5.it : ∀ n v, iter (evStep laws_szSerialOpS.E5 (bodyAt 5 Go.Proofs.Try.f28) laws_szSerialOpS_l5.ent.ins laws_szSerialOpS_l5.ent.rts laws_szSerialOpS_l5.ent.hm laws_szSerialOpS_l5.ent.nl laws_szSerialOpS_l5.ent.xs) n v = laws_szSerialOpS_l5 n v.1 v.2.1 v.2.2.1 := by
  intro n
  induction n with
  | zero => intro v; rfl
  | succ n ih =>
    intro v
    show (evStep laws_szSerialOpS.E5 (bodyAt 5 Go.Proofs.Try.f28) laws_szSerialOpS_l5.ent.ins laws_szSerialOpS_l5.ent.rts laws_szSerialOpS_l5.ent.hm laws_szSerialOpS_l5.ent.nl laws_szSerialOpS_l5.ent.xs) (iter (evStep laws_szSerialOpS.E5 (bodyAt 5 Go.Proofs.Try.f28) laws_szSerialOpS_l5.ent.ins laws_szSerialOpS_l5.ent.rts laws_szSerialOpS_l5.ent.hm laws_szSerialOpS_l5.ent.nl laws_szSerialOpS_l5.ent.xs) n) v = _
    rw [laws_szSerialOpS_l5.eq, show (fun c0 c1 c2 => iter (evStep laws_szSerialOpS.E5 (bodyAt 5 Go.Proofs.Try.f28) laws_szSerialOpS_l5.ent.ins laws_szSerialOpS_l5.ent.rts laws_szSerialOpS_l5.ent.hm laws_szSerialOpS_l5.ent.nl laws_szSerialOpS_l5.ent.xs) n (c0, c1, c2, ())) = laws_szSerialOpS_l5 n from by funext c0 c1 c2; exact ih _]
    rfl
theorem laws_szSerialOpS_l5.fr : firstRegion (bodyAt 5 Go.Proofs.Try.f28) = 5 := by kernel_rfl
theorem laws_szSerialOpS_l5.ls : loopsOf (bodyAt 5 Go.Proofs.Try.f28) = [] := by kernel_rfl
theorem laws_szSerialOpS_l5.lok {E : Env} (hpin : laws_szSerialOpS.E5.pin = E.pin) (hfind : find 5 E.loops = some laws_szSerialOpS_l5.ent) : LoopOK Go.Proofs.Try.prog E (bodyAt 5 Go.Proofs.Try.f28) :=
  loop_of (E1 := laws_szSerialOpS.E5) (EnvOK.of dok laws_szSerialOpS.fok) mixed hpin (by rw [laws_szSerialOpS_l5.fr]; exact hfind) laws_szSerialOpS_l5.ls (by intro l hl; simp at hl) (fun v => (laws_szSerialOpS_l5.it K0 v).symm)
theorem laws_szSerialOpS.ls : loopsOf (bodyOf Go.Proofs.Try.f28) = [bodyAt 5 Go.Proofs.Try.f28] := by kernel_rfl
theorem laws_szSerialOpS.at_ : Go.Proofs.Try.prog.funcs[28]? = some Go.Proofs.Try.f28 := by kernel_rfl
theorem laws_szSerialOpS.bd : Go.Proofs.Try.f28.body = some (bodyOf Go.Proofs.Try.f28) := by kernel_rfl
theorem laws_szSerialOpS.nm : Go.Proofs.Try.f28.name ≠ "runtime.NumGoroutine" := by decide
theorem laws_szSerialOpS.ok : EntryOK Go.Proofs.Try.prog 28 laws_szSerialOpS.ent :=
  entry_ok (E := laws_szSerialOpS.E) (EnvOK.of dok laws_szSerialOpS.fok) mixed laws_szSerialOpS.at_ laws_szSerialOpS.bd laws_szSerialOpS.nm laws_szSerialOpS.ls (by intro l hl; simp only [List.mem_singleton] at hl; subst hl; exact laws_szSerialOpS_l5.lok rfl rfl) laws_szSerialOpS.eq
/-! ### loop.example/g00038/laws.toSerial -/
noncomputable def laws_toSerial.E : Env := ⟨D, [], [], []⟩
noncomputable def laws_toSerial (a0 : ByteArray) (a1 : ByteArray) (a2 : Int) (a3 : Bool) : Option (ByteArray × ByteArray × Int × Bool × Unit) :=
  some (a0, a1, a2, a3, ())
noncomputable def laws_toSerial.ent : Entry := ⟨[false], [.agg [.val .bor (.str), .val .bor (.str), .val .bor (.int .i64), .val .bor (.bool)]], [.agg [.val .bor (.str), .val .bor (.str), .val .bor (.int .i64), .val .bor (.bool)]], [], fun v => laws_toSerial v.1 v.2.1 v.2.2.1 v.2.2.2.1⟩
theorem laws_toSerial.eq : ∀ v, evFn laws_toSerial.E Go.Proofs.Try.f30 laws_toSerial.ent.ptrs laws_toSerial.ent.ins laws_toSerial.ent.rets laws_toSerial.ent.outs v = laws_toSerial.ent.f v := by intro v; kernel_rfl
theorem laws_toSerial.fok : ∀ q ∈ ([] : List (Nat × Entry)), EntryOK Go.Proofs.Try.prog q.1 q.2 := by intro q hq; simp at hq
theorem laws_toSerial.ls : loopsOf (bodyOf Go.Proofs.Try.f30) = [] := by kernel_rfl
theorem laws_toSerial.at_ : Go.Proofs.Try.prog.funcs[30]? = some Go.Proofs.Try.f30 := by kernel_rfl
theorem laws_toSerial.bd : Go.Proofs.Try.f30.body = some (bodyOf Go.Proofs.Try.f30) := by kernel_rfl
theorem laws_toSerial.nm : Go.Proofs.Try.f30.name ≠ "runtime.NumGoroutine" := by decide
theorem laws_toSerial.ok : EntryOK Go.Proofs.Try.prog 30 laws_toSerial.ent :=
  entry_ok (E := laws_toSerial.E) (EnvOK.of dok laws_toSerial.fok) mixed laws_toSerial.at_ laws_toSerial.bd laws_toSerial.nm laws_toSerial.ls (by intro l hl; simp at hl) laws_toSerial.eq
/-! ### loop.example/g00038/laws.toSerialOp -/
noncomputable def laws_toSerialOp.E : Env := ⟨D, [], [], []⟩
noncomputable def laws_toSerialOp (a0 : Int) (a1 : Int) (a2 : Int) (a3 : ByteArray) : Option (Int × Int × Int × ByteArray × Unit) :=
  some (a0, a1, a2, a3, ())
noncomputable def laws_toSerialOp.ent : Entry := ⟨[false], [.agg [.val .bor (.int .i64), .val .bor (.int .i64), .val .bor (.int .i64), .val .bor (.str)]], [.agg [.val .bor (.int .i64), .val .bor (.int .i64), .val .bor (.int .i64), .val .bor (.str)]], [], fun v => laws_toSerialOp v.1 v.2.1 v.2.2.1 v.2.2.2.1⟩
theorem laws_toSerialOp.eq : ∀ v, evFn laws_toSerialOp.E Go.Proofs.Try.f93 laws_toSerialOp.ent.ptrs laws_toSerialOp.ent.ins laws_toSerialOp.ent.rets laws_toSerialOp.ent.outs v = laws_toSerialOp.ent.f v := by intro v; kernel_rfl
theorem laws_toSerialOp.fok : ∀ q ∈ ([] : List (Nat × Entry)), EntryOK Go.Proofs.Try.prog q.1 q.2 := by intro q hq; simp at hq
theorem laws_toSerialOp.ls : loopsOf (bodyOf Go.Proofs.Try.f93) = [] := by kernel_rfl
theorem laws_toSerialOp.at_ : Go.Proofs.Try.prog.funcs[93]? = some Go.Proofs.Try.f93 := by kernel_rfl
theorem laws_toSerialOp.bd : Go.Proofs.Try.f93.body = some (bodyOf Go.Proofs.Try.f93) := by kernel_rfl
theorem laws_toSerialOp.nm : Go.Proofs.Try.f93.name ≠ "runtime.NumGoroutine" := by decide
theorem laws_toSerialOp.ok : EntryOK Go.Proofs.Try.prog 93 laws_toSerialOp.ent :=
  entry_ok (E := laws_toSerialOp.E) (EnvOK.of dok laws_toSerialOp.fok) mixed laws_toSerialOp.at_ laws_toSerialOp.bd laws_toSerialOp.nm laws_toSerialOp.ls (by intro l hl; simp at hl) laws_toSerialOp.eq
/-! ### loop.example/g00038/laws.toSerialOpS -/
noncomputable def laws_toSerialOpS.E3 : Env := ⟨D, [], [(93, laws_toSerialOp.ent)], []⟩
noncomputable def laws_toSerialOpS_l3_step (rec : (List (Int × Int × Int × ByteArray)) → Int → (List (Int × Int × Int × ByteArray)) → Option ((List (Int × Int × Int × ByteArray) × Unit))) (y0 : List (Int × Int × Int × ByteArray)) (y1 : Int) (y2 : List (Int × Int × Int × ByteArray)) : Option ((List (Int × Int × Int × ByteArray) × Unit)) :=
  let b2 : Bool := decide (y1 < (y0.length : Int))
  bif b2 then
    let e3 : Int × Int × Int × ByteArray := rd R1 y0 y1
    (laws_toSerialOp e3.1 e3.2.1 e3.2.2.1 e3.2.2.2).bind fun r4 =>
    let l6 : List (Int × Int × Int × ByteArray) := y2.set y1.toNat (r4.1, r4.2.1, r4.2.2.1, r4.2.2.2.1)
    bif (decide (0 ≤ y1) && decide (y1 < (y0.length : Int))) && (decide (0 ≤ y1) && decide (y1 < (y2.length : Int))) then
      rec y0 (wrap64 (y1 + 1)) l6
    else none
  else
    some (y2, ())
noncomputable def laws_toSerialOpS_l3 : Nat → (List (Int × Int × Int × ByteArray)) → Int → (List (Int × Int × Int × ByteArray)) → Option ((List (Int × Int × Int × ByteArray) × Unit))
  | 0 => fun _ _ _ => none
  | n + 1 => laws_toSerialOpS_l3_step (laws_toSerialOpS_l3 n)
noncomputable def laws_toSerialOpS_l3.ent : LEntry := ⟨(.cell (.val .bor (.slice (.pair (.int .i64) (.pair (.int .i64) (.pair (.int .i64) (.str)))))) :: (sk 2 (.cell (.fix (.view 7 0)) :: (.cell (.val .bor (.int .i64)) :: (sk 18 []))))), rk 7 ([.val .own (.slice (.pair (.int .i64) (.pair (.int .i64) (.pair (.int .i64) (.str)))))] :: (rk 15 [])), [], [], [⟨some 0, sk 3 (.cell (.fix (.view 7 0)) :: (sk 19 [])), rk 7 ([.val .own (.slice (.pair (.int .i64) (.pair (.int .i64) (.pair (.int .i64) (.str)))))] :: (rk 15 [])), [], []⟩], fun v => laws_toSerialOpS_l3 K0 v.1 v.2.1 v.2.2.1⟩
theorem laws_toSerialOpS_l3.eq : ∀ rec v, evStep laws_toSerialOpS.E3 (bodyAt 3 Go.Proofs.Try.f31) laws_toSerialOpS_l3.ent.ins laws_toSerialOpS_l3.ent.rts laws_toSerialOpS_l3.ent.hm laws_toSerialOpS_l3.ent.nl laws_toSerialOpS_l3.ent.xs rec v = laws_toSerialOpS_l3_step (fun c0 c1 c2 => rec (c0, c1, c2, ())) v.1 v.2.1 v.2.2.1 := by intro rec v; kernel_rfl
noncomputable def laws_toSerialOpS.E : Env := ⟨D, [], [(93, laws_toSerialOp.ent)], [(3, laws_toSerialOpS_l3.ent)]⟩
noncomputable def laws_toSerialOpS (a0 : List (Int × Int × Int × ByteArray)) : Option (List (Int × Int × Int × ByteArray) × Unit) :=
  let l1 : List (Int × Int × Int × ByteArray) := List.replicate ((a0.length : Int).toNat) (Ty.dflt R1)
  bif decide (0 ≤ (a0.length : Int)) && decide ((a0.length : Int) ≤ (a0.length : Int)) && roomy (a0.length : Int) 40 then
    (laws_toSerialOpS_l3 K0 a0 0 l1).bind fun o7 =>
    some (o7.1, ())
  else none
noncomputable def laws_toSerialOpS.ent : Entry := ⟨[false], [.cell (.val .bor (.slice (.pair (.int .i64) (.pair (.int .i64) (.pair (.int .i64) (.str))))))], [.cell (.val .own (.slice (.pair (.int .i64) (.pair (.int .i64) (.pair (.int .i64) (.str))))))], [], fun v => laws_toSerialOpS v.1⟩
theorem laws_toSerialOpS.eq : ∀ v, evFn laws_toSerialOpS.E Go.Proofs.Try.f31 laws_toSerialOpS.ent.ptrs laws_toSerialOpS.ent.ins laws_toSerialOpS.ent.rets laws_toSerialOpS.ent.outs v = laws_toSerialOpS.ent.f v := by intro v; kernel_rfl
theorem laws_toSerialOpS.fok : ∀ q ∈ [((93 : Nat), laws_toSerialOp.ent)], EntryOK Go.Proofs.Try.prog q.1 q.2 := by
  intro q hq
  simp only [List.mem_cons, List.mem_nil_iff, or_false] at hq
  rcases hq with rfl
  · exact laws_toSerialOp.ok
theorem laws_toSerialOpS_l3.it : ∀ n v, iter (evStep laws_toSerialOpS.E3 (bodyAt 3 Go.Proofs.Try.f31) laws_toSerialOpS_l3.ent.ins laws_toSerialOpS_l3.ent.rts laws_toSerialOpS_l3.ent.hm laws_toSerialOpS_l3.ent.nl laws_toSerialOpS_l3.ent.xs) n v = laws_toSerialOpS_l3 n v.1 v.2.1 v.2.2.1 := by
  intro n
  induction n with
  | zero => intro v; rfl
  | succ n ih =>
    intro v
    show (evStep laws_toSerialOpS.E3 (bodyAt 3 Go.Proofs.Try.f31) laws_toSerialOpS_l3.ent.ins laws_toSerialOpS_l3.ent.rts laws_toSerialOpS_l3.ent.hm laws_toSerialOpS_l3.ent.nl laws_toSerialOpS_l3.ent.xs) (iter (evStep laws_toSerialOpS.E3 (bodyAt 3 Go.Proofs.Try.f31) laws_toSerialOpS_l3.ent.ins laws_toSerialOpS_l3.ent.rts laws_toSerialOpS_l3.ent.hm laws_toSerialOpS_l3.ent.nl laws_toSerialOpS_l3.ent.xs) n) v = _
    rw [laws_toSerialOpS_l3.eq, show (fun c0 c1 c2 => iter (evStep laws_toSerialOpS.E3 (bodyAt 3 Go.Proofs.Try.f31) laws_toSerialOpS_l3.ent.ins laws_toSerialOpS_l3.ent.rts laws_toSerialOpS_l3.ent.hm laws_toSerialOpS_l3.ent.nl laws_toSerialOpS_l3.ent.xs) n (c0, c1, c2, ())) = laws_toSerialOpS_l3 n from by funext c0 c1 c2; exact ih _]
    rfl
theorem laws_toSerialOpS_l3.fr : firstRegion (bodyAt 3 Go.Proofs.Try.f31) = 3 := by kernel_rfl
theorem laws_toSerialOpS_l3.ls : loopsOf (bodyAt 3 Go.Proofs.Try.f31) = [] := by kernel_rfl
theorem laws_toSerialOpS_l3.lok {E : Env} (hpin : laws_toSerialOpS.E3.pin = E.pin) (hfind : find 3 E.loops = some laws_toSerialOpS_l3.ent) : LoopOK Go.Proofs.Try.prog E (bodyAt 3 Go.Proofs.Try.f31) :=
  loop_of (E1 := laws_toSerialOpS.E3) (EnvOK.of dok laws_toSerialOpS.fok) mixed hpin (by rw [laws_toSerialOpS_l3.fr]; exact hfind) laws_toSerialOpS_l3.ls (by intro l hl; simp at hl) (fun v => (laws_toSerialOpS_l3.it K0 v).symm)
theorem laws_toSerialOpS.ls : loopsOf (bodyOf Go.Proofs.Try.f31) = [bodyAt 3 Go.Proofs.Try.f31] := by kernel_rfl
theorem laws_toSerialOpS.at_ : Go.Proofs.Try.prog.funcs[31]? = some Go.Proofs.Try.f31 := by kernel_rfl
theorem laws_toSerialOpS.bd : Go.Proofs.Try.f31.body = some (bodyOf Go.Proofs.Try.f31) := by kernel_rfl
theorem laws_toSerialOpS.nm : Go.Proofs.Try.f31.name ≠ "runtime.NumGoroutine" := by decide
theorem laws_toSerialOpS.ok : EntryOK Go.Proofs.Try.prog 31 laws_toSerialOpS.ent :=
  entry_ok (E := laws_toSerialOpS.E) (EnvOK.of dok laws_toSerialOpS.fok) mixed laws_toSerialOpS.at_ laws_toSerialOpS.bd laws_toSerialOpS.nm laws_toSerialOpS.ls (by intro l hl; simp only [List.mem_singleton] at hl; subst hl; exact laws_toSerialOpS_l3.lok rfl rfl) laws_toSerialOpS.eq
/-! ### loop.example/g00038/spec.l01Bool -/
noncomputable def spec_l01Bool.E : Env := ⟨D, [], [], []⟩
noncomputable def spec_l01Bool (a0 : Bool) : Option (Int × Unit) :=
  bif a0 then
    some (1, ())
  else
    some (0, ())
noncomputable def spec_l01Bool.ent : Entry := ⟨[false], [.cell (.val .bor (.bool))], [.cell (.val .bor (.int .i64))], [], fun v => spec_l01Bool v.1⟩
theorem spec_l01Bool.eq : ∀ v, evFn spec_l01Bool.E Go.Proofs.Try.f133 spec_l01Bool.ent.ptrs spec_l01Bool.ent.ins spec_l01Bool.ent.rets spec_l01Bool.ent.outs v = spec_l01Bool.ent.f v := by intro v; kernel_rfl
theorem spec_l01Bool.fok : ∀ q ∈ ([] : List (Nat × Entry)), EntryOK Go.Proofs.Try.prog q.1 q.2 := by intro q hq; simp at hq
theorem spec_l01Bool.ls : loopsOf (bodyOf Go.Proofs.Try.f133) = [] := by kernel_rfl
theorem spec_l01Bool.at_ : Go.Proofs.Try.prog.funcs[133]? = some Go.Proofs.Try.f133 := by kernel_rfl
theorem spec_l01Bool.bd : Go.Proofs.Try.f133.body = some (bodyOf Go.Proofs.Try.f133) := by kernel_rfl
theorem spec_l01Bool.nm : Go.Proofs.Try.f133.name ≠ "runtime.NumGoroutine" := by decide
theorem spec_l01Bool.ok : EntryOK Go.Proofs.Try.prog 133 spec_l01Bool.ent :=
  entry_ok (E := spec_l01Bool.E) (EnvOK.of dok spec_l01Bool.fok) mixed spec_l01Bool.at_ spec_l01Bool.bd spec_l01Bool.nm spec_l01Bool.ls (by intro l hl; simp at hl) spec_l01Bool.eq
/-! ### loop.example/g00038/spec.l01Mod -/
noncomputable def spec_l01Mod.E : Env := ⟨D, [], [], []⟩
noncomputable def spec_l01Mod (a0 : Int) (a1 : Int) : Option (Int × Unit) :=
  bif !(a1 == 0) then
    let b1 : Bool := decide ((Int.tmod a0 a1) < 0)
    let x2 : Int := (wrap64 ((Int.tmod a0 a1) + a1))
    let x3 : Int := (bif b1 then x2 else (Int.tmod a0 a1))
    some (x3, ())
  else none
noncomputable def spec_l01Mod.ent : Entry := ⟨[false, false], [.cell (.val .bor (.int .i64)), .cell (.val .bor (.int .i64))], [.cell (.val .bor (.int .i64))], [], fun v => spec_l01Mod v.1 v.2.1⟩
theorem spec_l01Mod.eq : ∀ v, evFn spec_l01Mod.E Go.Proofs.Try.f134 spec_l01Mod.ent.ptrs spec_l01Mod.ent.ins spec_l01Mod.ent.rets spec_l01Mod.ent.outs v = spec_l01Mod.ent.f v := by intro v; kernel_rfl
theorem spec_l01Mod.fok : ∀ q ∈ ([] : List (Nat × Entry)), EntryOK Go.Proofs.Try.prog q.1 q.2 := by intro q hq; simp at hq
theorem spec_l01Mod.ls : loopsOf (bodyOf Go.Proofs.Try.f134) = [] := by kernel_rfl
theorem spec_l01Mod.at_ : Go.Proofs.Try.prog.funcs[134]? = some Go.Proofs.Try.f134 := by kernel_rfl
theorem spec_l01Mod.bd : Go.Proofs.Try.f134.body = some (bodyOf Go.Proofs.Try.f134) := by kernel_rfl
theorem spec_l01Mod.nm : Go.Proofs.Try.f134.name ≠ "runtime.NumGoroutine" := by decide
theorem spec_l01Mod.ok : EntryOK Go.Proofs.Try.prog 134 spec_l01Mod.ent :=
  entry_ok (E := spec_l01Mod.E) (EnvOK.of dok spec_l01Mod.fok) mixed spec_l01Mod.at_ spec_l01Mod.bd spec_l01Mod.nm spec_l01Mod.ls (by intro l hl; simp at hl) spec_l01Mod.eq
/-! ### loop.example/g00038/spec.l11Serial -/
noncomputable def spec_l11Serial.E : Env := ⟨D, [], [(133, spec_l01Bool.ent), (134, spec_l01Mod.ent)], []⟩
noncomputable def spec_l11Serial (a0 : ByteArray) (a1 : ByteArray) (a2 : Int) (a3 : Bool) (a4 : Int) (a5 : Int) (a6 : Int) (a7 : ByteArray) : Option (ByteArray × ByteArray × Int × Bool × Int × Int × Unit) :=
  bif (a4 == 1) then
    let x1 : Int := (wrap64 ((16 : Int) - (a0.size : Int)))
    let b2 : Bool := decide ((a7.size : Int) > x1)
    let s3 : ByteArray := (a0 ++ (a7.extract 0 x1.toNat))
    let s7 : ByteArray := (bif b2 then s3 else (a0 ++ a7))
    bif (!b2 || (decide (0 ≤ x1) && decide (x1 ≤ (a7.size : Int)))) && ((!b2 || (joins a0 (a7.extract 0 x1.toNat))) && (!(!b2) || (joins a0 a7))) then
      some (s7, (bif b2 then a1 else a1), (bif b2 then a2 else a2), (b2 || a3), 0, 0, ())
    else none
  else
    let s9 : ByteArray := (bif decide (a5 < 0) then a0 else a0)
    let s10 : ByteArray := (bif decide (a5 < 0) then a1 else a1)
    let x11 : Int := (bif decide (a5 < 0) then a2 else a2)
    let b12 : Bool := (bif decide (a5 < 0) then a3 else a3)
    let x13 : Int := (bif decide (a5 < 0) then a4 else a4)
    let x14 : Int := (bif decide (a5 < 0) then a5 else a5)
    let x15 : Int := (bif decide (a5 < 0) then a6 else a6)
    let b19 : Bool := (bif decide (a5 < 0) then decide (a5 < 0) else decide (a5 > 3))
    let s26 : ByteArray := (bif ((a4 != 2) && (a4 != 3)) then a0 else s9)
    let s27 : ByteArray := (bif ((a4 != 2) && (a4 != 3)) then a1 else s10)
    let x28 : Int := (bif ((a4 != 2) && (a4 != 3)) then a2 else x11)
    let b29 : Bool := (bif ((a4 != 2) && (a4 != 3)) then a3 else b12)
    let x30 : Int := (bif ((a4 != 2) && (a4 != 3)) then a4 else x13)
    let x31 : Int := (bif ((a4 != 2) && (a4 != 3)) then a5 else x14)
    let x32 : Int := (bif ((a4 != 2) && (a4 != 3)) then a6 else x15)
    let b36 : Bool := (bif ((a4 != 2) && (a4 != 3)) then ((a4 != 2) && (a4 != 3)) else b19)
    bif b36 then
      some (s26, s27, x28, b29, 1, 0, ())
    else
    bif (x30 == 2) then
      bif (x31 == 0) then
        let b42 : Bool := seq s26 (⟨#[]⟩ : ByteArray)
        bif b42 then
          some (s26, s27, x28, b29, 0, 0, ())
        else
          bif decide (0 ≤ (0 : Int)) && decide ((0 : Int) < (s26.size : Int)) then
            bif decide (0 ≤ (1 : Int)) && decide ((1 : Int) ≤ (s26.size : Int)) then
              some (s26.extract 1 s26.size, s27, x28, b29, 0, (wrap64 (bt s26 0)), ())
            else none
          else none
      else
      bif (x31 == 1) then
        let b43 : Bool := !seq s26 (⟨#[]⟩ : ByteArray)
        (spec_l01Bool b43).bind fun r44 =>
        (spec_l01Bool b29).bind fun r45 =>
        let x46 : Int := (wrap64 ((4 : Int) * r45.1))
        let x47 : Int := (wrap64 ((wrap64 (r44.1 + 2)) + x46))
        some (s26, s27, x28, b29, 0, x47, ())
      else
      bif (x31 == 2) then
        some (s26, s27, x28, b29, 0, x28, ())
      else
        some (s26, s27, x28, b29, 0, 0, ())
    else
      let b48 : Bool := decide ((s27.size : Int) < 65536)
      let l49 : List Int := [(IntKind.u8.wrap (x32))]
      let s50 : ByteArray := (bif b48 then s26 else s26)
      let x52 : Int := (bif b48 then x28 else x28)
      let b53 : Bool := (bif b48 then b29 else b29)
      let s68 : ByteArray := (bif b48 then (s27 ++ (b2s l49)) else s27)
      let r71 : Int × Unit := (spec_l01Mod x32 4).getD (0, ())
      let s73 : ByteArray := (bif (x31 == 3) then s27 else s27)
      let x74 : Int := (bif (x31 == 3) then x28 else x28)
      let s90 : ByteArray := (bif (x31 == 3) then (⟨#[]⟩ : ByteArray) else s26)
      let b91 : Bool := (bif (x31 == 3) then false else b29)
      let s95 : ByteArray := (bif (x31 == 2) then s27 else s73)
      let s111 : ByteArray := (bif (x31 == 2) then s26 else s90)
      let x112 : Int := (bif (x31 == 2) then r71.1 else x74)
      let b113 : Bool := (bif (x31 == 2) then b29 else b91)
      let s132 : ByteArray := (bif (x31 == 0) then s50 else s111)
      let s133 : ByteArray := (bif (x31 == 0) then s68 else s95)
      let x134 : Int := (bif (x31 == 0) then x52 else x112)
      let b135 : Bool := (bif (x31 == 0) then b53 else b113)
      bif (!(x31 == 0) || (!b48 || (joins s27 (b2s l49)))) && (!(!(x31 == 0)) || (!(x31 == 2) || ((spec_l01Mod x32 4).isSome))) then
        some (s132, s133, x134, b135, 0, 0, ())
      else none
noncomputable def spec_l11Serial.ent : Entry := ⟨[false, false], [.agg [.val .bor (.str), .val .bor (.str), .val .bor (.int .i64), .val .bor (.bool)], .agg [.val .bor (.int .i64), .val .bor (.int .i64), .val .bor (.int .i64), .val .bor (.str)]], [.agg [.val .bor (.str), .val .bor (.str), .val .bor (.int .i64), .val .bor (.bool)], .cell (.val .bor (.int .i64)), .cell (.val .bor (.int .i64))], [], fun v => spec_l11Serial v.1 v.2.1 v.2.2.1 v.2.2.2.1 v.2.2.2.2.1 v.2.2.2.2.2.1 v.2.2.2.2.2.2.1 v.2.2.2.2.2.2.2.1⟩
theorem spec_l11Serial.eq : ∀ v, evFn spec_l11Serial.E Go.Proofs.Try.f92 spec_l11Serial.ent.ptrs spec_l11Serial.ent.ins spec_l11Serial.ent.rets spec_l11Serial.ent.outs v = spec_l11Serial.ent.f v := by intro v; kernel_rfl
theorem spec_l11Serial.fok : ∀ q ∈ [((133 : Nat), spec_l01Bool.ent), ((134 : Nat), spec_l01Mod.ent)], EntryOK Go.Proofs.Try.prog q.1 q.2 := by
  intro q hq
  simp only [List.mem_cons, List.mem_nil_iff, or_false] at hq
  rcases hq with rfl | rfl
  · exact spec_l01Bool.ok
  · exact spec_l01Mod.ok
theorem spec_l11Serial.ls : loopsOf (bodyOf Go.Proofs.Try.f92) = [] := by kernel_rfl
theorem spec_l11Serial.at_ : Go.Proofs.Try.prog.funcs[92]? = some Go.Proofs.Try.f92 := by kernel_rfl
theorem spec_l11Serial.bd : Go.Proofs.Try.f92.body = some (bodyOf Go.Proofs.Try.f92) := by kernel_rfl
theorem spec_l11Serial.nm : Go.Proofs.Try.f92.name ≠ "runtime.NumGoroutine" := by decide
theorem spec_l11Serial.ok : EntryOK Go.Proofs.Try.prog 92 spec_l11Serial.ent :=
  entry_ok (E := spec_l11Serial.E) (EnvOK.of dok spec_l11Serial.fok) mixed spec_l11Serial.at_ spec_l11Serial.bd spec_l11Serial.nm spec_l11Serial.ls (by intro l hl; simp at hl) spec_l11Serial.eq
/-! ### loop.example/g00038/spec.RunSerial -/
noncomputable def spec_RunSerial.E7 : Env := ⟨D, [], [(92, spec_l11Serial.ent)], []⟩
noncomputable def spec_RunSerial_l7_step (rec : (List (Int × Int × Int × ByteArray)) → Int → ByteArray → ByteArray → Int → Bool → Int → ByteArray → ByteArray → Int → Bool → (List (Int × Int × Bool)) → Option ((ByteArray × ByteArray × Int × Bool × Int × ByteArray × ByteArray × Int × Bool × List (Int × Int × Bool) × Unit))) (y0 : List (Int × Int × Int × ByteArray)) (y1 : Int) (y2 : ByteArray) (y3 : ByteArray) (y4 : Int) (y5 : Bool) (y6 : Int) (y7 : ByteArray) (y8 : ByteArray) (y9 : Int) (y10 : Bool) (y11 : List (Int × Int × Bool)) : Option ((ByteArray × ByteArray × Int × Bool × Int × ByteArray × ByteArray × Int × Bool × List (Int × Int × Bool) × Unit)) :=
  let b5 : Bool := decide (y1 < (y0.length : Int))
  bif b5 then
    let e6 : Int × Int × Int × ByteArray := rd R1 y0 y1
    (spec_l11Serial y2 y3 y4 y5 e6.1 e6.2.1 e6.2.2.1 e6.2.2.2).bind fun r7 =>
    bif decide (0 ≤ y1) && decide (y1 < (y0.length : Int)) then
      let b8 : Bool := ((Int.tmod r7.2.2.1 2) == 1)
      let b9 : Bool := !seq r7.1 (⟨#[]⟩ : ByteArray)
      let b10 : Bool := ((b8 && b9) || decide (r7.2.2.1 ≥ 2))
      bif !((2 : Int) == 0) then
        let l11 : List (Int × Int × Bool) := [(r7.2.2.2.2.1, r7.2.2.2.2.2.1, b10)]
        bif roomy ((y11.length : Int) + (l11.length : Int)) 24 then
          rec y0 (wrap64 (y1 + 1)) r7.1 r7.2.1 r7.2.2.1 r7.2.2.2.1 y6 y7 y8 y9 y10 (y11 ++ l11)
        else none
      else none
    else none
  else
    some (y2, y3, y4, y5, y6, y7, y8, y9, y10, y11, ())
noncomputable def spec_RunSerial_l7 : Nat → (List (Int × Int × Int × ByteArray)) → Int → ByteArray → ByteArray → Int → Bool → Int → ByteArray → ByteArray → Int → Bool → (List (Int × Int × Bool)) → Option ((ByteArray × ByteArray × Int × Bool × Int × ByteArray × ByteArray × Int × Bool × List (Int × Int × Bool) × Unit))
  | 0 => fun _ _ _ _ _ _ _ _ _ _ _ _ => none
  | n + 1 => spec_RunSerial_l7_step (spec_RunSerial_l7 n)
noncomputable def spec_RunSerial_l7.ent : LEntry := ⟨sk 1 (.cell (.val .bor (.slice (.pair (.int .i64) (.pair (.int .i64) (.pair (.int .i64) (.str)))))) :: (.cell (.fix (.ptr 2 0)) :: (sk 1 (.cell (.fix (.ptr 4 0)) :: (.cell (.fix (.view 5 0)) :: (.cell (.val .bor (.int .i64)) :: (sk 72 []))))))), rk 2 ([.val .bor (.str), .val .bor (.str), .val .bor (.int .i64), .val .bor (.bool)] :: (rk 1 ([.val .bor (.int .i64), .val .bor (.str), .val .bor (.str), .val .bor (.int .i64), .val .bor (.bool), .fix (.nil)] :: ([.val .own (.slice (.pair (.int .i64) (.pair (.int .i64) (.bool))))] :: (rk 73 []))))), [(5, true, .pair (.int .i64) (.pair (.int .i64) (.bool)))], [], [⟨some 0, sk 2 (.cell (.fix (.ptr 2 0)) :: (sk 1 (.cell (.fix (.ptr 4 0)) :: (.cell (.fix (.view 5 0)) :: (sk 73 []))))), rk 2 ([.val .bor (.str), .val .bor (.str), .val .bor (.int .i64), .val .bor (.bool)] :: (rk 1 ([.val .bor (.int .i64), .val .bor (.str), .val .bor (.str), .val .bor (.int .i64), .val .bor (.bool), .fix (.nil)] :: ([.val .own (.slice (.pair (.int .i64) (.pair (.int .i64) (.bool))))] :: (rk 73 []))))), [], []⟩], fun v => spec_RunSerial_l7 K0 v.1 v.2.1 v.2.2.1 v.2.2.2.1 v.2.2.2.2.1 v.2.2.2.2.2.1 v.2.2.2.2.2.2.1 v.2.2.2.2.2.2.2.1 v.2.2.2.2.2.2.2.2.1 v.2.2.2.2.2.2.2.2.2.1 v.2.2.2.2.2.2.2.2.2.2.1 v.2.2.2.2.2.2.2.2.2.2.2.1⟩
theorem spec_RunSerial_l7.eq : ∀ rec v, evStep spec_RunSerial.E7 (bodyAt 7 Go.Proofs.Try.f29) spec_RunSerial_l7.ent.ins spec_RunSerial_l7.ent.rts spec_RunSerial_l7.ent.hm spec_RunSerial_l7.ent.nl spec_RunSerial_l7.ent.xs rec v = spec_RunSerial_l7_step (fun c0 c1 c2 c3 c4 c5 c6 c7 c8 c9 c10 c11 => rec (c0, c1, c2, c3, c4, c5, c6, c7, c8, c9, c10, c11, ())) v.1 v.2.1 v.2.2.1 v.2.2.2.1 v.2.2.2.2.1 v.2.2.2.2.2.1 v.2.2.2.2.2.2.1 v.2.2.2.2.2.2.2.1 v.2.2.2.2.2.2.2.2.1 v.2.2.2.2.2.2.2.2.2.1 v.2.2.2.2.2.2.2.2.2.2.1 v.2.2.2.2.2.2.2.2.2.2.2.1 := by intro rec v; kernel_rfl
noncomputable def spec_RunSerial.E : Env := ⟨D, [], [(92, spec_l11Serial.ent)], [(7, spec_RunSerial_l7.ent)]⟩
noncomputable def spec_RunSerial (a0 : ByteArray) (a1 : ByteArray) (a2 : Int) (a3 : Bool) (a4 : List (Int × Int × Int × ByteArray)) : Option (Int × ByteArray × ByteArray × Int × Bool × List (Int × Int × Bool) × Unit) :=
  let b1 : Bool := decide ((a4.length : Int) > 1000)
  bif b1 then
    some (2, ByteArray.empty, ByteArray.empty, 0, false, [], ())
  else
    let b2 : Bool := decide ((a0.size : Int) > 16)
    let b3 : Bool := decide ((a1.size : Int) > 65536)
    let b4 : Bool := ((b2 || b3) || decide (a2 < 0))
    bif (b4 || decide (a2 > 3)) then
      some (1, ByteArray.empty, ByteArray.empty, 0, false, [], ())
    else
      (spec_RunSerial_l7 K0 a4 0 a0 a1 a2 a3 0 ByteArray.empty ByteArray.empty 0 false []).bind fun o12 =>
      some (0, o12.1, o12.2.1, o12.2.2.1, o12.2.2.2.1, o12.2.2.2.2.2.2.2.2.2.1, ())
noncomputable def spec_RunSerial.ent : Entry := ⟨[false, false], [.agg [.val .bor (.str), .val .bor (.str), .val .bor (.int .i64), .val .bor (.bool)], .cell (.val .bor (.slice (.pair (.int .i64) (.pair (.int .i64) (.pair (.int .i64) (.str))))))], [.agg [.val .bor (.int .i64), .val .bor (.str), .val .bor (.str), .val .bor (.int .i64), .val .bor (.bool), .val .own (.slice (.pair (.int .i64) (.pair (.int .i64) (.bool))))]], [], fun v => spec_RunSerial v.1 v.2.1 v.2.2.1 v.2.2.2.1 v.2.2.2.2.1⟩
theorem spec_RunSerial.eq : ∀ v, evFn spec_RunSerial.E Go.Proofs.Try.f29 spec_RunSerial.ent.ptrs spec_RunSerial.ent.ins spec_RunSerial.ent.rets spec_RunSerial.ent.outs v = spec_RunSerial.ent.f v := by intro v; kernel_rfl
theorem spec_RunSerial.fok : ∀ q ∈ [((92 : Nat), spec_l11Serial.ent)], EntryOK Go.Proofs.Try.prog q.1 q.2 := by
  intro q hq
  simp only [List.mem_cons, List.mem_nil_iff, or_false] at hq
  rcases hq with rfl
  · exact spec_l11Serial.ok
theorem spec_RunSerial_l7.it : ∀ n v, iter (evStep spec_RunSerial.E7 (bodyAt 7 Go.Proofs.Try.f29) spec_RunSerial_l7.ent.ins spec_RunSerial_l7.ent.rts spec_RunSerial_l7.ent.hm spec_RunSerial_l7.ent.nl spec_RunSerial_l7.ent.xs) n v = spec_RunSerial_l7 n v.1 v.2.1 v.2.2.1 v.2.2.2.1 v.2.2.2.2.1 v.2.2.2.2.2.1 v.2.2.2.2.2.2.1 v.2.2.2.2.2.2.2.1 v.2.2.2.2.2.2.2.2.1 v.2.2.2.2.2.2.2.2.2.1 v.2.2.2.2.2.2.2.2.2.2.1 v.2.2.2.2.2.2.2.2.2.2.2.1 := by
  intro n
  induction n with
  | zero => intro v; rfl
  | succ n ih =>
    intro v
    show (evStep spec_RunSerial.E7 (bodyAt 7 Go.Proofs.Try.f29) spec_RunSerial_l7.ent.ins spec_RunSerial_l7.ent.rts spec_RunSerial_l7.ent.hm spec_RunSerial_l7.ent.nl spec_RunSerial_l7.ent.xs) (iter (evStep spec_RunSerial.E7 (bodyAt 7 Go.Proofs.Try.f29) spec_RunSerial_l7.ent.ins spec_RunSerial_l7.ent.rts spec_RunSerial_l7.ent.hm spec_RunSerial_l7.ent.nl spec_RunSerial_l7.ent.xs) n) v = _
    rw [spec_RunSerial_l7.eq, show (fun c0 c1 c2 c3 c4 c5 c6 c7 c8 c9 c10 c11 => iter (evStep spec_RunSerial.E7 (bodyAt 7 Go.Proofs.Try.f29) spec_RunSerial_l7.ent.ins spec_RunSerial_l7.ent.rts spec_RunSerial_l7.ent.hm spec_RunSerial_l7.ent.nl spec_RunSerial_l7.ent.xs) n (c0, c1, c2, c3, c4, c5, c6, c7, c8, c9, c10, c11, ())) = spec_RunSerial_l7 n from by funext c0 c1 c2 c3 c4 c5 c6 c7 c8 c9 c10 c11; exact ih _]
    rfl
theorem spec_RunSerial_l7.fr : firstRegion (bodyAt 7 Go.Proofs.Try.f29) = 7 := by kernel_rfl
theorem spec_RunSerial_l7.ls : loopsOf (bodyAt 7 Go.Proofs.Try.f29) = [] := by kernel_rfl
theorem spec_RunSerial_l7.lok {E : Env} (hpin : spec_RunSerial.E7.pin = E.pin) (hfind : find 7 E.loops = some spec_RunSerial_l7.ent) : LoopOK Go.Proofs.Try.prog E (bodyAt 7 Go.Proofs.Try.f29) :=
  loop_of (E1 := spec_RunSerial.E7) (EnvOK.of dok spec_RunSerial.fok) mixed hpin (by rw [spec_RunSerial_l7.fr]; exact hfind) spec_RunSerial_l7.ls (by intro l hl; simp at hl) (fun v => (spec_RunSerial_l7.it K0 v).symm)
theorem spec_RunSerial.ls : loopsOf (bodyOf Go.Proofs.Try.f29) = [bodyAt 7 Go.Proofs.Try.f29] := by kernel_rfl
theorem spec_RunSerial.at_ : Go.Proofs.Try.prog.funcs[29]? = some Go.Proofs.Try.f29 := by kernel_rfl
theorem spec_RunSerial.bd : Go.Proofs.Try.f29.body = some (bodyOf Go.Proofs.Try.f29) := by kernel_rfl
theorem spec_RunSerial.nm : Go.Proofs.Try.f29.name ≠ "runtime.NumGoroutine" := by decide
theorem spec_RunSerial.ok : EntryOK Go.Proofs.Try.prog 29 spec_RunSerial.ent :=
  entry_ok (E := spec_RunSerial.E) (EnvOK.of dok spec_RunSerial.fok) mixed spec_RunSerial.at_ spec_RunSerial.bd spec_RunSerial.nm spec_RunSerial.ls (by intro l hl; simp only [List.mem_singleton] at hl; subst hl; exact spec_RunSerial_l7.lok rfl rfl) spec_RunSerial.eq
/-! ### loop.example/g00038/impl.yin -/
noncomputable def impl_yin.E : Env := ⟨D, [], [], []⟩
noncomputable def impl_yin (a0 : Int) (a1 : Int) (a2 : Int) : Option (Bool × Unit) :=
  let b1 : Bool := (decide (a0 ≥ a1) && decide (a0 ≤ a2))
  some (b1, ())
noncomputable def impl_yin.ent : Entry := ⟨[false, false, false], [.cell (.val .bor (.int .i64)), .cell (.val .bor (.int .i64)), .cell (.val .bor (.int .i64))], [.cell (.val .bor (.bool))], [], fun v => impl_yin v.1 v.2.1 v.2.2.1⟩
theorem impl_yin.eq : ∀ v, evFn impl_yin.E Go.Proofs.Try.f84 impl_yin.ent.ptrs impl_yin.ent.ins impl_yin.ent.rets impl_yin.ent.outs v = impl_yin.ent.f v := by intro v; kernel_rfl
theorem impl_yin.fok : ∀ q ∈ ([] : List (Nat × Entry)), EntryOK Go.Proofs.Try.prog q.1 q.2 := by intro q hq; simp at hq
theorem impl_yin.ls : loopsOf (bodyOf Go.Proofs.Try.f84) = [] := by kernel_rfl
theorem impl_yin.at_ : Go.Proofs.Try.prog.funcs[84]? = some Go.Proofs.Try.f84 := by kernel_rfl
theorem impl_yin.bd : Go.Proofs.Try.f84.body = some (bodyOf Go.Proofs.Try.f84) := by kernel_rfl
theorem impl_yin.nm : Go.Proofs.Try.f84.name ≠ "runtime.NumGoroutine" := by decide
theorem impl_yin.ok : EntryOK Go.Proofs.Try.prog 84 impl_yin.ent :=
  entry_ok (E := impl_yin.E) (EnvOK.of dok impl_yin.fok) mixed impl_yin.at_ impl_yin.bd impl_yin.nm impl_yin.ls (by intro l hl; simp at hl) impl_yin.eq
/-! ### (*loop.example/g00038/impl.Serial).ydo -/
noncomputable def impl_Serial_ydo_v2.E : Env := ⟨D, [0], [(84, impl_yin.ent)], []⟩
noncomputable def impl_Serial_ydo_v2 (a0 : ByteArray) (a1 : ByteArray) (a2 : Int) (a3 : Bool) (a4 : Int) (a5 : Int) (a6 : Int) (a7 : ByteArray) : Option (Int × Int × ByteArray × ByteArray × Int × Bool × Unit) :=
  let r1 : Bool × Unit := (impl_yin a5 0 3).getD (false, ())
  bif (!(a4 != 1) || (impl_yin a5 0 3).isSome) then
    bif ((a4 != 1) && !r1.1) then
      some (1, 0, a0, a1, a2, a3, ())
    else
    bif (a4 == 1) then
      let x2 : Int := (wrap64 ((16 : Int) - (a0.size : Int)))
      let x3 : Int := (bif decide (x2 < (a7.size : Int)) then x2 else (a7.size : Int))
      let s4 : ByteArray := (a0 ++ (a7.extract 0 x3.toNat))
      bif (decide (0 ≤ x3) && decide (x3 ≤ (a7.size : Int))) && (joins a0 (a7.extract 0 x3.toNat)) then
        let b5 : Bool := decide (x3 < (a7.size : Int))
        some (0, 0, s4, a1, a2, (a3 || b5), ())
      else none
    else
    bif (a4 == 2) then
      bif (a5 == 0) then
        let b6 : Bool := seq a0 (⟨#[]⟩ : ByteArray)
        bif b6 then
          some (0, 0, a0, a1, a2, a3, ())
        else
          bif decide (0 ≤ (0 : Int)) && decide ((0 : Int) < (a0.size : Int)) then
            bif decide (0 ≤ (1 : Int)) && decide ((1 : Int) ≤ (a0.size : Int)) then
              some (0, (wrap64 (bt a0 0)), a0.extract 1 a0.size, a1, a2, a3, ())
            else none
          else none
      else
      bif (a5 == 1) then
        let b7 : Bool := !seq a0 (⟨#[]⟩ : ByteArray)
        let x8 : Int := (bif b7 then (bits .or .i64 2 1) else 2)
        let x22 : Int := (bif (bif b7 then a3 else a3) then (bits .or .i64 x8 4) else x8)
        let s31 : ByteArray := (bif (bif b7 then a3 else a3) then (bif b7 then a0 else a0) else (bif b7 then a0 else a0))
        let b33 : Bool := (bif (bif b7 then a3 else a3) then (bif b7 then a3 else a3) else (bif b7 then a3 else a3))
        let s34 : ByteArray := (bif (bif b7 then a3 else a3) then (bif b7 then a1 else a1) else (bif b7 then a1 else a1))
        let x35 : Int := (bif (bif b7 then a3 else a3) then (bif b7 then a2 else a2) else (bif b7 then a2 else a2))
        some (0, x22, s31, s34, x35, b33, ())
      else
      bif (a5 == 2) then
        some (0, a2, a0, a1, a2, a3, ())
      else
        some (0, 0, a0, a1, a2, a3, ())
    else
    bif (a4 == 3) then
      let b36 : Bool := decide ((a1.size : Int) < 65536)
      let s37 : ByteArray := b2s [(IntKind.u8.wrap (a6))]
      let s53 : ByteArray := (bif b36 then a0 else a0)
      let s54 : ByteArray := (bif b36 then (a1 ++ s37) else a1)
      let x55 : Int := (bif b36 then a2 else a2)
      let b56 : Bool := (bif b36 then a3 else a3)
      let s72 : ByteArray := (bif (a5 == 3) then (⟨#[]⟩ : ByteArray) else a0)
      let s73 : ByteArray := (bif (a5 == 3) then a1 else a1)
      let x74 : Int := (bif (a5 == 3) then a2 else a2)
      let b75 : Bool := (bif (a5 == 3) then false else a3)
      let s90 : ByteArray := (bif (a5 == 2) then a0 else s72)
      let s91 : ByteArray := (bif (a5 == 2) then a1 else s73)
      let x92 : Int := (bif (a5 == 2) then (bits .and .i64 a6 3) else x74)
      let b93 : Bool := (bif (a5 == 2) then a3 else b75)
      let s107 : ByteArray := (bif (a5 == 0) then s53 else s90)
      let s108 : ByteArray := (bif (a5 == 0) then s54 else s91)
      let x109 : Int := (bif (a5 == 0) then x55 else x92)
      let b110 : Bool := (bif (a5 == 0) then b56 else b93)
      bif (!(a5 == 0) || (!b36 || (joins a1 s37))) then
        some (0, 0, s107, s108, x109, b110, ())
      else none
    else
      some (1, 0, a0, a1, a2, a3, ())
  else none
noncomputable def impl_Serial_ydo_v2.ent : Entry := ⟨[true, false], [.agg [.val .bor (.str), .val .bor (.str), .val .bor (.int .i64), .val .bor (.bool)], .agg [.val .bor (.int .i64), .val .bor (.int .i64), .val .bor (.int .i64), .val .bor (.str)]], [.cell (.val .bor (.int .i64)), .cell (.val .bor (.int .i64))], [.agg [.val .bor (.str), .val .bor (.str), .val .bor (.int .i64), .val .bor (.bool)]], fun v => impl_Serial_ydo_v2 v.1 v.2.1 v.2.2.1 v.2.2.2.1 v.2.2.2.2.1 v.2.2.2.2.2.1 v.2.2.2.2.2.2.1 v.2.2.2.2.2.2.2.1⟩
theorem impl_Serial_ydo_v2.eq : ∀ v, evFn impl_Serial_ydo_v2.E Go.Proofs.Try.f94 impl_Serial_ydo_v2.ent.ptrs impl_Serial_ydo_v2.ent.ins impl_Serial_ydo_v2.ent.rets impl_Serial_ydo_v2.ent.outs v = impl_Serial_ydo_v2.ent.f v := by intro v; kernel_rfl
theorem impl_Serial_ydo_v2.fok : ∀ q ∈ [((84 : Nat), impl_yin.ent)], EntryOK Go.Proofs.Try.prog q.1 q.2 := by
  intro q hq
  simp only [List.mem_cons, List.mem_nil_iff, or_false] at hq
  rcases hq with rfl
  · exact impl_yin.ok
theorem impl_Serial_ydo_v2.ls : loopsOf (bodyOf Go.Proofs.Try.f94) = [] := by kernel_rfl
theorem impl_Serial_ydo_v2.at_ : Go.Proofs.Try.prog.funcs[94]? = some Go.Proofs.Try.f94 := by kernel_rfl
theorem impl_Serial_ydo_v2.bd : Go.Proofs.Try.f94.body = some (bodyOf Go.Proofs.Try.f94) := by kernel_rfl
theorem impl_Serial_ydo_v2.nm : Go.Proofs.Try.f94.name ≠ "runtime.NumGoroutine" := by decide
theorem impl_Serial_ydo_v2.ok : EntryOK Go.Proofs.Try.prog 94 impl_Serial_ydo_v2.ent :=
  entry_ok (E := impl_Serial_ydo_v2.E) (EnvOK.of dok impl_Serial_ydo_v2.fok) mixed impl_Serial_ydo_v2.at_ impl_Serial_ydo_v2.bd impl_Serial_ydo_v2.nm impl_Serial_ydo_v2.ls (by intro l hl; simp at hl) impl_Serial_ydo_v2.eq
/-! ### loop.example/g00038/impl.RunSerial -/
noncomputable def impl_RunSerial.E7 : Env := ⟨D, [], [(84, impl_yin.ent), (94, impl_Serial_ydo_v2.ent)], []⟩
noncomputable def impl_RunSerial_l7_step (rec : (List (Int × Int × Int × ByteArray)) → Int → Int → ByteArray → ByteArray → Int → Bool → Int → ByteArray → ByteArray → Int → Bool → (List (Int × Int × Bool)) → Option ((ByteArray × ByteArray × Int × Bool × Int × ByteArray × ByteArray × Int × Bool × List (Int × Int × Bool) × Unit))) (y0 : List (Int × Int × Int × ByteArray)) (y1 : Int) (y2 : Int) (y3 : ByteArray) (y4 : ByteArray) (y5 : Int) (y6 : Bool) (y7 : Int) (y8 : ByteArray) (y9 : ByteArray) (y10 : Int) (y11 : Bool) (y12 : List (Int × Int × Bool)) : Option ((ByteArray × ByteArray × Int × Bool × Int × ByteArray × ByteArray × Int × Bool × List (Int × Int × Bool) × Unit)) :=
  bif decide (y2 < y1) then
    let e11 : Int × Int × Int × ByteArray := rd R1 y0 y2
    bif decide (0 ≤ y2) && decide (y2 < (y0.length : Int)) then
      (impl_Serial_ydo_v2 y3 y4 y5 y6 e11.1 e11.2.1 e11.2.2.1 e11.2.2.2).bind fun r12 =>
      let x13 : Int := (bits .and .i64 r12.2.2.2.2.1 1)
      let b14 : Bool := !seq r12.2.2.1 (⟨#[]⟩ : ByteArray)
      let x15 : Int := (bits .and .i64 r12.2.2.2.2.1 2)
      let b16 : Bool := (((x13 != 0) && b14) || (x15 != 0))
      let l17 : List (Int × Int × Bool) := (y12 ++ [(r12.1, r12.2.1, b16)])
      bif roomy ((y12.length : Int) + ([(r12.1, r12.2.1, b16)].length : Int)) 24 then
        rec y0 y1 (wrap64 (y2 + 1)) r12.2.2.1 r12.2.2.2.1 r12.2.2.2.2.1 r12.2.2.2.2.2.1 y7 y8 y9 y10 y11 l17
      else none
    else none
  else
    some (y3, y4, y5, y6, y7, y8, y9, y10, y11, y12, ())
noncomputable def impl_RunSerial_l7 : Nat → (List (Int × Int × Int × ByteArray)) → Int → Int → ByteArray → ByteArray → Int → Bool → Int → ByteArray → ByteArray → Int → Bool → (List (Int × Int × Bool)) → Option ((ByteArray × ByteArray × Int × Bool × Int × ByteArray × ByteArray × Int × Bool × List (Int × Int × Bool) × Unit))
  | 0 => fun _ _ _ _ _ _ _ _ _ _ _ _ _ => none
  | n + 1 => impl_RunSerial_l7_step (impl_RunSerial_l7 n)
noncomputable def impl_RunSerial_l7.ent : LEntry := ⟨sk 2 (.cell (.fix (.ptr 2 0)) :: (sk 1 (.cell (.fix (.ptr 4 0)) :: (.cell (.fix (.view 5 0)) :: (sk 25 (.cell (.val .bor (.slice (.pair (.int .i64) (.pair (.int .i64) (.pair (.int .i64) (.str)))))) :: (.cell (.val .bor (.int .i64)) :: (.cell (.val .bor (.int .i64)) :: (sk 33 []))))))))), rk 2 ([.val .bor (.str), .val .bor (.str), .val .bor (.int .i64), .val .bor (.bool)] :: (rk 1 ([.val .bor (.int .i64), .val .bor (.str), .val .bor (.str), .val .bor (.int .i64), .val .bor (.bool), .fix (.nil)] :: ([.val .own (.slice (.pair (.int .i64) (.pair (.int .i64) (.bool))))] :: (rk 61 []))))), [(5, true, .pair (.int .i64) (.pair (.int .i64) (.bool)))], [], [⟨some 0, sk 2 (.cell (.fix (.ptr 2 0)) :: (sk 1 (.cell (.fix (.ptr 4 0)) :: (.cell (.fix (.view 5 0)) :: (sk 61 []))))), rk 2 ([.val .bor (.str), .val .bor (.str), .val .bor (.int .i64), .val .bor (.bool)] :: (rk 1 ([.val .bor (.int .i64), .val .bor (.str), .val .bor (.str), .val .bor (.int .i64), .val .bor (.bool), .fix (.nil)] :: ([.val .own (.slice (.pair (.int .i64) (.pair (.int .i64) (.bool))))] :: (rk 61 []))))), [], []⟩], fun v => impl_RunSerial_l7 K0 v.1 v.2.1 v.2.2.1 v.2.2.2.1 v.2.2.2.2.1 v.2.2.2.2.2.1 v.2.2.2.2.2.2.1 v.2.2.2.2.2.2.2.1 v.2.2.2.2.2.2.2.2.1 v.2.2.2.2.2.2.2.2.2.1 v.2.2.2.2.2.2.2.2.2.2.1 v.2.2.2.2.2.2.2.2.2.2.2.1 v.2.2.2.2.2.2.2.2.2.2.2.2.1⟩
theorem impl_RunSerial_l7.eq : ∀ rec v, evStep impl_RunSerial.E7 (bodyAt 7 Go.Proofs.Try.f32) impl_RunSerial_l7.ent.ins impl_RunSerial_l7.ent.rts impl_RunSerial_l7.ent.hm impl_RunSerial_l7.ent.nl impl_RunSerial_l7.ent.xs rec v = impl_RunSerial_l7_step (fun c0 c1 c2 c3 c4 c5 c6 c7 c8 c9 c10 c11 c12 => rec (c0, c1, c2, c3, c4, c5, c6, c7, c8, c9, c10, c11, c12, ())) v.1 v.2.1 v.2.2.1 v.2.2.2.1 v.2.2.2.2.1 v.2.2.2.2.2.1 v.2.2.2.2.2.2.1 v.2.2.2.2.2.2.2.1 v.2.2.2.2.2.2.2.2.1 v.2.2.2.2.2.2.2.2.2.1 v.2.2.2.2.2.2.2.2.2.2.1 v.2.2.2.2.2.2.2.2.2.2.2.1 v.2.2.2.2.2.2.2.2.2.2.2.2.1 := by intro rec v; kernel_rfl
noncomputable def impl_RunSerial.E : Env := ⟨D, [], [(84, impl_yin.ent), (94, impl_Serial_ydo_v2.ent)], [(7, impl_RunSerial_l7.ent)]⟩
noncomputable def impl_RunSerial (a0 : ByteArray) (a1 : ByteArray) (a2 : Int) (a3 : Bool) (a4 : List (Int × Int × Int × ByteArray)) : Option (Int × ByteArray × ByteArray × Int × Bool × List (Int × Int × Bool) × Unit) :=
  let b1 : Bool := decide ((a4.length : Int) > 1000)
  bif b1 then
    some (2, ByteArray.empty, ByteArray.empty, 0, false, [], ())
  else
    let b2 : Bool := decide ((a0.size : Int) > 16)
    let b3 : Bool := decide ((a1.size : Int) > 65536)
    let r4 : Bool × Unit := (impl_yin a2 0 3).getD (false, ())
    bif (!(!(b2 || b3)) || (impl_yin a2 0 3).isSome) then
      bif ((b2 || b3) || !r4.1) then
        some (1, ByteArray.empty, ByteArray.empty, 0, false, [], ())
      else
        (impl_RunSerial_l7 K0 a4 (a4.length : Int) 0 a0 a1 a2 a3 0 ByteArray.empty ByteArray.empty 0 false []).bind fun o18 =>
        some (0, o18.1, o18.2.1, o18.2.2.1, o18.2.2.2.1, o18.2.2.2.2.2.2.2.2.2.1, ())
    else none
noncomputable def impl_RunSerial.ent : Entry := ⟨[false, false], [.agg [.val .bor (.str), .val .bor (.str), .val .bor (.int .i64), .val .bor (.bool)], .cell (.val .bor (.slice (.pair (.int .i64) (.pair (.int .i64) (.pair (.int .i64) (.str))))))], [.agg [.val .bor (.int .i64), .val .bor (.str), .val .bor (.str), .val .bor (.int .i64), .val .bor (.bool), .val .own (.slice (.pair (.int .i64) (.pair (.int .i64) (.bool))))]], [], fun v => impl_RunSerial v.1 v.2.1 v.2.2.1 v.2.2.2.1 v.2.2.2.2.1⟩
theorem impl_RunSerial.eq : ∀ v, evFn impl_RunSerial.E Go.Proofs.Try.f32 impl_RunSerial.ent.ptrs impl_RunSerial.ent.ins impl_RunSerial.ent.rets impl_RunSerial.ent.outs v = impl_RunSerial.ent.f v := by intro v; kernel_rfl
theorem impl_RunSerial.fok : ∀ q ∈ [((84 : Nat), impl_yin.ent), ((94 : Nat), impl_Serial_ydo_v2.ent)], EntryOK Go.Proofs.Try.prog q.1 q.2 := by
  intro q hq
  simp only [List.mem_cons, List.mem_nil_iff, or_false] at hq
  rcases hq with rfl | rfl
  · exact impl_yin.ok
  · exact impl_Serial_ydo_v2.ok
theorem impl_RunSerial_l7.it : ∀ n v, iter (evStep impl_RunSerial.E7 (bodyAt 7 Go.Proofs.Try.f32) impl_RunSerial_l7.ent.ins impl_RunSerial_l7.ent.rts impl_RunSerial_l7.ent.hm impl_RunSerial_l7.ent.nl impl_RunSerial_l7.ent.xs) n v = impl_RunSerial_l7 n v.1 v.2.1 v.2.2.1 v.2.2.2.1 v.2.2.2.2.1 v.2.2.2.2.2.1 v.2.2.2.2.2.2.1 v.2.2.2.2.2.2.2.1 v.2.2.2.2.2.2.2.2.1 v.2.2.2.2.2.2.2.2.2.1 v.2.2.2.2.2.2.2.2.2.2.1 v.2.2.2.2.2.2.2.2.2.2.2.1 v.2.2.2.2.2.2.2.2.2.2.2.2.1 := by
  intro n
  induction n with
  | zero => intro v; rfl
  | succ n ih =>
    intro v
    show (evStep impl_RunSerial.E7 (bodyAt 7 Go.Proofs.Try.f32) impl_RunSerial_l7.ent.ins impl_RunSerial_l7.ent.rts impl_RunSerial_l7.ent.hm impl_RunSerial_l7.ent.nl impl_RunSerial_l7.ent.xs) (iter (evStep impl_RunSerial.E7 (bodyAt 7 Go.Proofs.Try.f32) impl_RunSerial_l7.ent.ins impl_RunSerial_l7.ent.rts impl_RunSerial_l7.ent.hm impl_RunSerial_l7.ent.nl impl_RunSerial_l7.ent.xs) n) v = _
    rw [impl_RunSerial_l7.eq, show (fun c0 c1 c2 c3 c4 c5 c6 c7 c8 c9 c10 c11 c12 => iter (evStep impl_RunSerial.E7 (bodyAt 7 Go.Proofs.Try.f32) impl_RunSerial_l7.ent.ins impl_RunSerial_l7.ent.rts impl_RunSerial_l7.ent.hm impl_RunSerial_l7.ent.nl impl_RunSerial_l7.ent.xs) n (c0, c1, c2, c3, c4, c5, c6, c7, c8, c9, c10, c11, c12, ())) = impl_RunSerial_l7 n from by funext c0 c1 c2 c3 c4 c5 c6 c7 c8 c9 c10 c11 c12; exact ih _]
    rfl
theorem impl_RunSerial_l7.fr : firstRegion (bodyAt 7 Go.Proofs.Try.f32) = 7 := by kernel_rfl
theorem impl_RunSerial_l7.ls : loopsOf (bodyAt 7 Go.Proofs.Try.f32) = [] := by kernel_rfl
theorem impl_RunSerial_l7.lok {E : Env} (hpin : impl_RunSerial.E7.pin = E.pin) (hfind : find 7 E.loops = some impl_RunSerial_l7.ent) : LoopOK Go.Proofs.Try.prog E (bodyAt 7 Go.Proofs.Try.f32) :=
  loop_of (E1 := impl_RunSerial.E7) (EnvOK.of dok impl_RunSerial.fok) mixed hpin (by rw [impl_RunSerial_l7.fr]; exact hfind) impl_RunSerial_l7.ls (by intro l hl; simp at hl) (fun v => (impl_RunSerial_l7.it K0 v).symm)
theorem impl_RunSerial.ls : loopsOf (bodyOf Go.Proofs.Try.f32) = [bodyAt 7 Go.Proofs.Try.f32] := by kernel_rfl
theorem impl_RunSerial.at_ : Go.Proofs.Try.prog.funcs[32]? = some Go.Proofs.Try.f32 := by kernel_rfl
theorem impl_RunSerial.bd : Go.Proofs.Try.f32.body = some (bodyOf Go.Proofs.Try.f32) := by kernel_rfl
theorem impl_RunSerial.nm : Go.Proofs.Try.f32.name ≠ "runtime.NumGoroutine" := by decide
theorem impl_RunSerial.ok : EntryOK Go.Proofs.Try.prog 32 impl_RunSerial.ent :=
  entry_ok (E := impl_RunSerial.E) (EnvOK.of dok impl_RunSerial.fok) mixed impl_RunSerial.at_ impl_RunSerial.bd impl_RunSerial.nm impl_RunSerial.ls (by intro l hl; simp only [List.mem_singleton] at hl; subst hl; exact impl_RunSerial_l7.lok rfl rfl) impl_RunSerial.eq
/-! ### loop.example/g00038/laws.eqSerial -/
noncomputable def laws_eqSerial.E : Env := ⟨D, [], [], []⟩
noncomputable def laws_eqSerial (a0 : ByteArray) (a1 : ByteArray) (a2 : Int) (a3 : Bool) (a4 : ByteArray) (a5 : ByteArray) (a6 : Int) (a7 : Bool) : Option (Bool × Unit) :=
  bif !seq a0 a4 then
    some (false, ())
  else
  bif !seq a1 a5 then
    some (false, ())
  else
  bif (a2 != a6) then
    some (false, ())
  else
  bif !(a3 == a7) then
    some (false, ())
  else
    some (true, ())
noncomputable def laws_eqSerial.ent : Entry := ⟨[false, false], [.agg [.val .bor (.str), .val .bor (.str), .val .bor (.int .i64), .val .bor (.bool)], .agg [.val .bor (.str), .val .bor (.str), .val .bor (.int .i64), .val .bor (.bool)]], [.cell (.val .bor (.bool))], [], fun v => laws_eqSerial v.1 v.2.1 v.2.2.1 v.2.2.2.1 v.2.2.2.2.1 v.2.2.2.2.2.1 v.2.2.2.2.2.2.1 v.2.2.2.2.2.2.2.1⟩
theorem laws_eqSerial.eq : ∀ v, evFn laws_eqSerial.E Go.Proofs.Try.f95 laws_eqSerial.ent.ptrs laws_eqSerial.ent.ins laws_eqSerial.ent.rets laws_eqSerial.ent.outs v = laws_eqSerial.ent.f v := by intro v; kernel_rfl
theorem laws_eqSerial.fok : ∀ q ∈ ([] : List (Nat × Entry)), EntryOK Go.Proofs.Try.prog q.1 q.2 := by intro q hq; simp at hq
theorem laws_eqSerial.ls : loopsOf (bodyOf Go.Proofs.Try.f95) = [] := by kernel_rfl
theorem laws_eqSerial.at_ : Go.Proofs.Try.prog.funcs[95]? = some Go.Proofs.Try.f95 := by kernel_rfl
theorem laws_eqSerial.bd : Go.Proofs.Try.f95.body = some (bodyOf Go.Proofs.Try.f95) := by kernel_rfl
theorem laws_eqSerial.nm : Go.Proofs.Try.f95.name ≠ "runtime.NumGoroutine" := by decide
theorem laws_eqSerial.ok : EntryOK Go.Proofs.Try.prog 95 laws_eqSerial.ent :=
  entry_ok (E := laws_eqSerial.E) (EnvOK.of dok laws_eqSerial.fok) mixed laws_eqSerial.at_ laws_eqSerial.bd laws_eqSerial.nm laws_eqSerial.ls (by intro l hl; simp at hl) laws_eqSerial.eq
/-! ### loop.example/g00038/laws.eqSerialOut -/
noncomputable def laws_eqSerialOut.E : Env := ⟨D, [], [], []⟩
noncomputable def laws_eqSerialOut (a0 : Int) (a1 : Int) (a2 : Bool) (a3 : Int) (a4 : Int) (a5 : Bool) : Option (Bool × Unit) :=
  bif (a0 != a3) then
    some (false, ())
  else
  bif (a1 != a4) then
    some (false, ())
  else
  bif !(a2 == a5) then
    some (false, ())
  else
    some (true, ())
noncomputable def laws_eqSerialOut.ent : Entry := ⟨[false, false], [.agg [.val .bor (.int .i64), .val .bor (.int .i64), .val .bor (.bool)], .agg [.val .bor (.int .i64), .val .bor (.int .i64), .val .bor (.bool)]], [.cell (.val .bor (.bool))], [], fun v => laws_eqSerialOut v.1 v.2.1 v.2.2.1 v.2.2.2.1 v.2.2.2.2.1 v.2.2.2.2.2.1⟩
theorem laws_eqSerialOut.eq : ∀ v, evFn laws_eqSerialOut.E Go.Proofs.Try.f135 laws_eqSerialOut.ent.ptrs laws_eqSerialOut.ent.ins laws_eqSerialOut.ent.rets laws_eqSerialOut.ent.outs v = laws_eqSerialOut.ent.f v := by intro v; kernel_rfl
theorem laws_eqSerialOut.fok : ∀ q ∈ ([] : List (Nat × Entry)), EntryOK Go.Proofs.Try.prog q.1 q.2 := by intro q hq; simp at hq
theorem laws_eqSerialOut.ls : loopsOf (bodyOf Go.Proofs.Try.f135) = [] := by kernel_rfl
theorem laws_eqSerialOut.at_ : Go.Proofs.Try.prog.funcs[135]? = some Go.Proofs.Try.f135 := by kernel_rfl
theorem laws_eqSerialOut.bd : Go.Proofs.Try.f135.body = some (bodyOf Go.Proofs.Try.f135) := by kernel_rfl
theorem laws_eqSerialOut.nm : Go.Proofs.Try.f135.name ≠ "runtime.NumGoroutine" := by decide
theorem laws_eqSerialOut.ok : EntryOK Go.Proofs.Try.prog 135 laws_eqSerialOut.ent :=
  entry_ok (E := laws_eqSerialOut.E) (EnvOK.of dok laws_eqSerialOut.fok) mixed laws_eqSerialOut.at_ laws_eqSerialOut.bd laws_eqSerialOut.nm laws_eqSerialOut.ls (by intro l hl; simp at hl) laws_eqSerialOut.eq
/-! ### loop.example/g00038/laws.eqSerialOutS -/
noncomputable def laws_eqSerialOutS.E4 : Env := ⟨D, [], [(135, laws_eqSerialOut.ent)], []⟩
noncomputable def laws_eqSerialOutS_l4_step (rec : (List (Int × Int × Bool)) → (List (Int × Int × Bool)) → Int → Option ((Bool × Unit) ⊕ (Unit))) (y0 : List (Int × Int × Bool)) (y1 : List (Int × Int × Bool)) (y2 : Int) : Option ((Bool × Unit) ⊕ (Unit)) :=
  let b2 : Bool := decide (y2 < (y0.length : Int))
  bif b2 then
    let e3 : Int × Int × Bool := rd R2 y0 y2
    let e4 : Int × Int × Bool := rd R2 y1 y2
    (laws_eqSerialOut e3.1 e3.2.1 e3.2.2 e4.1 e4.2.1 e4.2.2).bind fun r5 =>
    bif (decide (0 ≤ y2) && decide (y2 < (y0.length : Int))) && (decide (0 ≤ y2) && decide (y2 < (y1.length : Int))) then
      bif !r5.1 then
        some (Sum.inl (false, ()))
      else
        rec y0 y1 (wrap64 (y2 + 1))
    else none
  else
    some (Sum.inr ())
noncomputable def laws_eqSerialOutS_l4 : Nat → (List (Int × Int × Bool)) → (List (Int × Int × Bool)) → Int → Option ((Bool × Unit) ⊕ (Unit))
  | 0 => fun _ _ _ => none
  | n + 1 => laws_eqSerialOutS_l4_step (laws_eqSerialOutS_l4 n)
noncomputable def laws_eqSerialOutS_l4.ent : LEntry := ⟨(.cell (.val .bor (.slice (.pair (.int .i64) (.pair (.int .i64) (.bool))))) :: (.cell (.val .bor (.slice (.pair (.int .i64) (.pair (.int .i64) (.bool))))) :: (sk 3 (.cell (.val .bor (.int .i64)) :: (sk 21 []))))), rk 27 [], [], [], [⟨none, sk 4 (.cell (.val .bor (.bool)) :: (sk 22 [])), rk 27 [], [], []⟩, ⟨some 0, sk 27 [], rk 27 [], [], []⟩], fun v => laws_eqSerialOutS_l4 K0 v.1 v.2.1 v.2.2.1⟩
theorem laws_eqSerialOutS_l4.eq : ∀ rec v, evStep laws_eqSerialOutS.E4 (bodyAt 4 Go.Proofs.Try.f96) laws_eqSerialOutS_l4.ent.ins laws_eqSerialOutS_l4.ent.rts laws_eqSerialOutS_l4.ent.hm laws_eqSerialOutS_l4.ent.nl laws_eqSerialOutS_l4.ent.xs rec v = laws_eqSerialOutS_l4_step (fun c0 c1 c2 => rec (c0, c1, c2, ())) v.1 v.2.1 v.2.2.1 := by intro rec v; kernel_rfl
noncomputable def laws_eqSerialOutS.E : Env := ⟨D, [], [(135, laws_eqSerialOut.ent)], [(4, laws_eqSerialOutS_l4.ent)]⟩
noncomputable def laws_eqSerialOutS (a0 : List (Int × Int × Bool)) (a1 : List (Int × Int × Bool)) : Option (Bool × Unit) :=
  let b1 : Bool := ((a0.length : Int) != (a1.length : Int))
  bif b1 then
    some (false, ())
  else
    (laws_eqSerialOutS_l4 K0 a0 a1 0).bind fun o6 =>
    match o6 with
    | Sum.inl p7 =>
      some (p7.1, ())
    | Sum.inr p8 =>
      some (true, ())
noncomputable def laws_eqSerialOutS.ent : Entry := ⟨[false, false], [.cell (.val .bor (.slice (.pair (.int .i64) (.pair (.int .i64) (.bool))))), .cell (.val .bor (.slice (.pair (.int .i64) (.pair (.int .i64) (.bool)))))], [.cell (.val .bor (.bool))], [], fun v => laws_eqSerialOutS v.1 v.2.1⟩
theorem laws_eqSerialOutS.eq : ∀ v, evFn laws_eqSerialOutS.E Go.Proofs.Try.f96 laws_eqSerialOutS.ent.ptrs laws_eqSerialOutS.ent.ins laws_eqSerialOutS.ent.rets laws_eqSerialOutS.ent.outs v = laws_eqSerialOutS.ent.f v := by intro v; kernel_rfl
theorem laws_eqSerialOutS.fok : ∀ q ∈ [((135 : Nat), laws_eqSerialOut.ent)], EntryOK Go.Proofs.Try.prog q.1 q.2 := by
  intro q hq
  simp only [List.mem_cons, List.mem_nil_iff, or_false] at hq
  rcases hq with rfl
  · exact laws_eqSerialOut.ok
theorem laws_eqSerialOutS_l4.it : ∀ n v, iter (evStep laws_eqSerialOutS.E4 (bodyAt 4 Go.Proofs.Try.f96) laws_eqSerialOutS_l4.ent.ins laws_eqSerialOutS_l4.ent.rts laws_eqSerialOutS_l4.ent.hm laws_eqSerialOutS_l4.ent.nl laws_eqSerialOutS_l4.ent.xs) n v = laws_eqSerialOutS_l4 n v.1 v.2.1 v.2.2.1 := by
  intro n
  induction n with
  | zero => intro v; rfl
  | succ n ih =>
    intro v
    show (evStep laws_eqSerialOutS.E4 (bodyAt 4 Go.Proofs.Try.f96) laws_eqSerialOutS_l4.ent.ins laws_eqSerialOutS_l4.ent.rts laws_eqSerialOutS_l4.ent.hm laws_eqSerialOutS_l4.ent.nl laws_eqSerialOutS_l4.ent.xs) (iter (evStep laws_eqSerialOutS.E4 (bodyAt 4 Go.Proofs.Try.f96) laws_eqSerialOutS_l4.ent.ins laws_eqSerialOutS_l4.ent.rts laws_eqSerialOutS_l4.ent.hm laws_eqSerialOutS_l4.ent.nl laws_eqSerialOutS_l4.ent.xs) n) v = _
    rw [laws_eqSerialOutS_l4.eq, show (fun c0 c1 c2 => iter (evStep laws_eqSerialOutS.E4 (bodyAt 4 Go.Proofs.Try.f96) laws_eqSerialOutS_l4.ent.ins laws_eqSerialOutS_l4.ent.rts laws_eqSerialOutS_l4.ent.hm laws_eqSerialOutS_l4.ent.nl laws_eqSerialOutS_l4.ent.xs) n (c0, c1, c2, ())) = laws_eqSerialOutS_l4 n from by funext c0 c1 c2; exact ih _]
    rfl
theorem laws_eqSerialOutS_l4.fr : firstRegion (bodyAt 4 Go.Proofs.Try.f96) = 4 := by kernel_rfl
theorem laws_eqSerialOutS_l4.ls : loopsOf (bodyAt 4 Go.Proofs.Try.f96) = [] := by kernel_rfl
theorem laws_eqSerialOutS_l4.lok {E : Env} (hpin : laws_eqSerialOutS.E4.pin = E.pin) (hfind : find 4 E.loops = some laws_eqSerialOutS_l4.ent) : LoopOK Go.Proofs.Try.prog E (bodyAt 4 Go.Proofs.Try.f96) :=
  loop_of (E1 := laws_eqSerialOutS.E4) (EnvOK.of dok laws_eqSerialOutS.fok) mixed hpin (by rw [laws_eqSerialOutS_l4.fr]; exact hfind) laws_eqSerialOutS_l4.ls (by intro l hl; simp at hl) (fun v => (laws_eqSerialOutS_l4.it K0 v).symm)
theorem laws_eqSerialOutS.ls : loopsOf (bodyOf Go.Proofs.Try.f96) = [bodyAt 4 Go.Proofs.Try.f96] := by kernel_rfl
theorem laws_eqSerialOutS.at_ : Go.Proofs.Try.prog.funcs[96]? = some Go.Proofs.Try.f96 := by kernel_rfl
theorem laws_eqSerialOutS.bd : Go.Proofs.Try.f96.body = some (bodyOf Go.Proofs.Try.f96) := by kernel_rfl
theorem laws_eqSerialOutS.nm : Go.Proofs.Try.f96.name ≠ "runtime.NumGoroutine" := by decide
theorem laws_eqSerialOutS.ok : EntryOK Go.Proofs.Try.prog 96 laws_eqSerialOutS.ent :=
  entry_ok (E := laws_eqSerialOutS.E) (EnvOK.of dok laws_eqSerialOutS.fok) mixed laws_eqSerialOutS.at_ laws_eqSerialOutS.bd laws_eqSerialOutS.nm laws_eqSerialOutS.ls (by intro l hl; simp only [List.mem_singleton] at hl; subst hl; exact laws_eqSerialOutS_l4.lok rfl rfl) laws_eqSerialOutS.eq
/-! ### loop.example/g00038/laws.eqSerialRun -/
noncomputable def laws_eqSerialRun.E : Env := ⟨D, [], [(95, laws_eqSerial.ent), (96, laws_eqSerialOutS.ent)], []⟩
noncomputable def laws_eqSerialRun (a0 : Int) (a1 : ByteArray) (a2 : ByteArray) (a3 : Int) (a4 : Bool) (a5 : List (Int × Int × Bool)) (a6 : Int) (a7 : ByteArray) (a8 : ByteArray) (a9 : Int) (a10 : Bool) (a11 : List (Int × Int × Bool)) : Option (Bool × Unit) :=
  bif (a0 != a6) then
    some (false, ())
  else
    (laws_eqSerial a1 a2 a3 a4 a7 a8 a9 a10).bind fun r1 =>
    bif !r1.1 then
      some (false, ())
    else
      (laws_eqSerialOutS a5 a11).bind fun r2 =>
      bif !r2.1 then
        some (false, ())
      else
        some (true, ())
noncomputable def laws_eqSerialRun.ent : Entry := ⟨[false, false], [.agg [.val .bor (.int .i64), .val .bor (.str), .val .bor (.str), .val .bor (.int .i64), .val .bor (.bool), .val .bor (.slice (.pair (.int .i64) (.pair (.int .i64) (.bool))))], .agg [.val .bor (.int .i64), .val .bor (.str), .val .bor (.str), .val .bor (.int .i64), .val .bor (.bool), .val .bor (.slice (.pair (.int .i64) (.pair (.int .i64) (.bool))))]], [.cell (.val .bor (.bool))], [], fun v => laws_eqSerialRun v.1 v.2.1 v.2.2.1 v.2.2.2.1 v.2.2.2.2.1 v.2.2.2.2.2.1 v.2.2.2.2.2.2.1 v.2.2.2.2.2.2.2.1 v.2.2.2.2.2.2.2.2.1 v.2.2.2.2.2.2.2.2.2.1 v.2.2.2.2.2.2.2.2.2.2.1 v.2.2.2.2.2.2.2.2.2.2.2.1⟩
theorem laws_eqSerialRun.eq : ∀ v, evFn laws_eqSerialRun.E Go.Proofs.Try.f33 laws_eqSerialRun.ent.ptrs laws_eqSerialRun.ent.ins laws_eqSerialRun.ent.rets laws_eqSerialRun.ent.outs v = laws_eqSerialRun.ent.f v := by intro v; kernel_rfl
theorem laws_eqSerialRun.fok : ∀ q ∈ [((95 : Nat), laws_eqSerial.ent), ((96 : Nat), laws_eqSerialOutS.ent)], EntryOK Go.Proofs.Try.prog q.1 q.2 := by
  intro q hq
  simp only [List.mem_cons, List.mem_nil_iff, or_false] at hq
  rcases hq with rfl | rfl
  · exact laws_eqSerial.ok
  · exact laws_eqSerialOutS.ok
theorem laws_eqSerialRun.ls : loopsOf (bodyOf Go.Proofs.Try.f33) = [] := by kernel_rfl
theorem laws_eqSerialRun.at_ : Go.Proofs.Try.prog.funcs[33]? = some Go.Proofs.Try.f33 := by kernel_rfl
theorem laws_eqSerialRun.bd : Go.Proofs.Try.f33.body = some (bodyOf Go.Proofs.Try.f33) := by kernel_rfl
theorem laws_eqSerialRun.nm : Go.Proofs.Try.f33.name ≠ "runtime.NumGoroutine" := by decide
theorem laws_eqSerialRun.ok : EntryOK Go.Proofs.Try.prog 33 laws_eqSerialRun.ent :=
  entry_ok (E := laws_eqSerialRun.E) (EnvOK.of dok laws_eqSerialRun.fok) mixed laws_eqSerialRun.at_ laws_eqSerialRun.bd laws_eqSerialRun.nm laws_eqSerialRun.ls (by intro l hl; simp at hl) laws_eqSerialRun.eq
/-! ### loop.example/g00038/laws.eqSerialOp -/
noncomputable def laws_eqSerialOp.E : Env := ⟨D, [], [], []⟩
noncomputable def laws_eqSerialOp (a0 : Int) (a1 : Int) (a2 : Int) (a3 : ByteArray) (a4 : Int) (a5 : Int) (a6 : Int) (a7 : ByteArray) : Option (Bool × Unit) :=
  bif (a0 != a4) then
    some (false, ())
  else
  bif (a1 != a5) then
    some (false, ())
  else
  bif (a2 != a6) then
    some (false, ())
  else
  bif !seq a3 a7 then
    some (false, ())
  else
    some (true, ())
noncomputable def laws_eqSerialOp.ent : Entry := ⟨[false, false], [.agg [.val .bor (.int .i64), .val .bor (.int .i64), .val .bor (.int .i64), .val .bor (.str)], .agg [.val .bor (.int .i64), .val .bor (.int .i64), .val .bor (.int .i64), .val .bor (.str)]], [.cell (.val .bor (.bool))], [], fun v => laws_eqSerialOp v.1 v.2.1 v.2.2.1 v.2.2.2.1 v.2.2.2.2.1 v.2.2.2.2.2.1 v.2.2.2.2.2.2.1 v.2.2.2.2.2.2.2.1⟩
theorem laws_eqSerialOp.eq : ∀ v, evFn laws_eqSerialOp.E Go.Proofs.Try.f97 laws_eqSerialOp.ent.ptrs laws_eqSerialOp.ent.ins laws_eqSerialOp.ent.rets laws_eqSerialOp.ent.outs v = laws_eqSerialOp.ent.f v := by intro v; kernel_rfl
theorem laws_eqSerialOp.fok : ∀ q ∈ ([] : List (Nat × Entry)), EntryOK Go.Proofs.Try.prog q.1 q.2 := by intro q hq; simp at hq
theorem laws_eqSerialOp.ls : loopsOf (bodyOf Go.Proofs.Try.f97) = [] := by kernel_rfl
theorem laws_eqSerialOp.at_ : Go.Proofs.Try.prog.funcs[97]? = some Go.Proofs.Try.f97 := by kernel_rfl
theorem laws_eqSerialOp.bd : Go.Proofs.Try.f97.body = some (bodyOf Go.Proofs.Try.f97) := by kernel_rfl
theorem laws_eqSerialOp.nm : Go.Proofs.Try.f97.name ≠ "runtime.NumGoroutine" := by decide
theorem laws_eqSerialOp.ok : EntryOK Go.Proofs.Try.prog 97 laws_eqSerialOp.ent :=
  entry_ok (E := laws_eqSerialOp.E) (EnvOK.of dok laws_eqSerialOp.fok) mixed laws_eqSerialOp.at_ laws_eqSerialOp.bd laws_eqSerialOp.nm laws_eqSerialOp.ls (by intro l hl; simp at hl) laws_eqSerialOp.eq
/-! ### loop.example/g00038/laws.eqSerialOpS -/
noncomputable def laws_eqSerialOpS.E4 : Env := ⟨D, [], [(97, laws_eqSerialOp.ent)], []⟩
noncomputable def laws_eqSerialOpS_l4_step (rec : (List (Int × Int × Int × ByteArray)) → (List (Int × Int × Int × ByteArray)) → Int → Option ((Bool × Unit) ⊕ (Unit))) (y0 : List (Int × Int × Int × ByteArray)) (y1 : List (Int × Int × Int × ByteArray)) (y2 : Int) : Option ((Bool × Unit) ⊕ (Unit)) :=
  let b2 : Bool := decide (y2 < (y0.length : Int))
  bif b2 then
    let e3 : Int × Int × Int × ByteArray := rd R1 y0 y2
    let e4 : Int × Int × Int × ByteArray := rd R1 y1 y2
    (laws_eqSerialOp e3.1 e3.2.1 e3.2.2.1 e3.2.2.2 e4.1 e4.2.1 e4.2.2.1 e4.2.2.2).bind fun r5 =>
    bif (decide (0 ≤ y2) && decide (y2 < (y0.length : Int))) && (decide (0 ≤ y2) && decide (y2 < (y1.length : Int))) then
      bif !r5.1 then
        some (Sum.inl (false, ()))
      else
        rec y0 y1 (wrap64 (y2 + 1))
    else none
  else
    some (Sum.inr ())
noncomputable def laws_eqSerialOpS_l4 : Nat → (List (Int × Int × Int × ByteArray)) → (List (Int × Int × Int × ByteArray)) → Int → Option ((Bool × Unit) ⊕ (Unit))
  | 0 => fun _ _ _ => none
  | n + 1 => laws_eqSerialOpS_l4_step (laws_eqSerialOpS_l4 n)
noncomputable def laws_eqSerialOpS_l4.ent : LEntry := ⟨(.cell (.val .bor (.slice (.pair (.int .i64) (.pair (.int .i64) (.pair (.int .i64) (.str)))))) :: (.cell (.val .bor (.slice (.pair (.int .i64) (.pair (.int .i64) (.pair (.int .i64) (.str)))))) :: (sk 3 (.cell (.val .bor (.int .i64)) :: (sk 21 []))))), rk 27 [], [], [], [⟨none, sk 4 (.cell (.val .bor (.bool)) :: (sk 22 [])), rk 27 [], [], []⟩, ⟨some 0, sk 27 [], rk 27 [], [], []⟩], fun v => laws_eqSerialOpS_l4 K0 v.1 v.2.1 v.2.2.1⟩
theorem laws_eqSerialOpS_l4.eq : ∀ rec v, evStep laws_eqSerialOpS.E4 (bodyAt 4 Go.Proofs.Try.f34) laws_eqSerialOpS_l4.ent.ins laws_eqSerialOpS_l4.ent.rts laws_eqSerialOpS_l4.ent.hm laws_eqSerialOpS_l4.ent.nl laws_eqSerialOpS_l4.ent.xs rec v = laws_eqSerialOpS_l4_step (fun c0 c1 c2 => rec (c0, c1, c2, ())) v.1 v.2.1 v.2.2.1 := by intro rec v; kernel_rfl
noncomputable def laws_eqSerialOpS.E : Env := ⟨D, [], [(97, laws_eqSerialOp.ent)], [(4, laws_eqSerialOpS_l4.ent)]⟩
noncomputable def laws_eqSerialOpS (a0 : List (Int × Int × Int × ByteArray)) (a1 : List (Int × Int × Int × ByteArray)) : Option (Bool × Unit) :=
  let b1 : Bool := ((a0.length : Int) != (a1.length : Int))
  bif b1 then
    some (false, ())
  else
    (laws_eqSerialOpS_l4 K0 a0 a1 0).bind fun o6 =>
    match o6 with
    | Sum.inl p7 =>
      some (p7.1, ())
    | Sum.inr p8 =>
      some (true, ())
noncomputable def laws_eqSerialOpS.ent : Entry := ⟨[false, false], [.cell (.val .bor (.slice (.pair (.int .i64) (.pair (.int .i64) (.pair (.int .i64) (.str)))))), .cell (.val .bor (.slice (.pair (.int .i64) (.pair (.int .i64) (.pair (.int .i64) (.str))))))], [.cell (.val .bor (.bool))], [], fun v => laws_eqSerialOpS v.1 v.2.1⟩
theorem laws_eqSerialOpS.eq : ∀ v, evFn laws_eqSerialOpS.E Go.Proofs.Try.f34 laws_eqSerialOpS.ent.ptrs laws_eqSerialOpS.ent.ins laws_eqSerialOpS.ent.rets laws_eqSerialOpS.ent.outs v = laws_eqSerialOpS.ent.f v := by intro v; kernel_rfl
theorem laws_eqSerialOpS.fok : ∀ q ∈ [((97 : Nat), laws_eqSerialOp.ent)], EntryOK Go.Proofs.Try.prog q.1 q.2 := by
  intro q hq
  simp only [List.mem_cons, List.mem_nil_iff, or_false] at hq
  rcases hq with rfl
  · exact laws_eqSerialOp.ok
theorem laws_eqSerialOpS_l4.it : ∀ n v, iter (evStep laws_eqSerialOpS.E4 (bodyAt 4 Go.Proofs.Try.f34) laws_eqSerialOpS_l4.ent.ins laws_eqSerialOpS_l4.ent.rts laws_eqSerialOpS_l4.ent.hm laws_eqSerialOpS_l4.ent.nl laws_eqSerialOpS_l4.ent.xs) n v = laws_eqSerialOpS_l4 n v.1 v.2.1 v.2.2.1 := by
  intro n
  induction n with
  | zero => intro v; rfl
  | succ n ih =>
    intro v
    show (evStep laws_eqSerialOpS.E4 (bodyAt 4 Go.Proofs.Try.f34) laws_eqSerialOpS_l4.ent.ins laws_eqSerialOpS_l4.ent.rts laws_eqSerialOpS_l4.ent.hm laws_eqSerialOpS_l4.ent.nl laws_eqSerialOpS_l4.ent.xs) (iter (evStep laws_eqSerialOpS.E4 (bodyAt 4 Go.Proofs.Try.f34) laws_eqSerialOpS_l4.ent.ins laws_eqSerialOpS_l4.ent.rts laws_eqSerialOpS_l4.ent.hm laws_eqSerialOpS_l4.ent.nl laws_eqSerialOpS_l4.ent.xs) n) v = _
    rw [laws_eqSerialOpS_l4.eq, show (fun c0 c1 c2 => iter (evStep laws_eqSerialOpS.E4 (bodyAt 4 Go.Proofs.Try.f34) laws_eqSerialOpS_l4.ent.ins laws_eqSerialOpS_l4.ent.rts laws_eqSerialOpS_l4.ent.hm laws_eqSerialOpS_l4.ent.nl laws_eqSerialOpS_l4.ent.xs) n (c0, c1, c2, ())) = laws_eqSerialOpS_l4 n from by funext c0 c1 c2; exact ih _]
    rfl
theorem laws_eqSerialOpS_l4.fr : firstRegion (bodyAt 4 Go.Proofs.Try.f34) = 4 := by kernel_rfl
theorem laws_eqSerialOpS_l4.ls : loopsOf (bodyAt 4 Go.Proofs.Try.f34) = [] := by kernel_rfl
theorem laws_eqSerialOpS_l4.lok {E : Env} (hpin : laws_eqSerialOpS.E4.pin = E.pin) (hfind : find 4 E.loops = some laws_eqSerialOpS_l4.ent) : LoopOK Go.Proofs.Try.prog E (bodyAt 4 Go.Proofs.Try.f34) :=
  loop_of (E1 := laws_eqSerialOpS.E4) (EnvOK.of dok laws_eqSerialOpS.fok) mixed hpin (by rw [laws_eqSerialOpS_l4.fr]; exact hfind) laws_eqSerialOpS_l4.ls (by intro l hl; simp at hl) (fun v => (laws_eqSerialOpS_l4.it K0 v).symm)
theorem laws_eqSerialOpS.ls : loopsOf (bodyOf Go.Proofs.Try.f34) = [bodyAt 4 Go.Proofs.Try.f34] := by kernel_rfl
theorem laws_eqSerialOpS.at_ : Go.Proofs.Try.prog.funcs[34]? = some Go.Proofs.Try.f34 := by kernel_rfl
theorem laws_eqSerialOpS.bd : Go.Proofs.Try.f34.body = some (bodyOf Go.Proofs.Try.f34) := by kernel_rfl
theorem laws_eqSerialOpS.nm : Go.Proofs.Try.f34.name ≠ "runtime.NumGoroutine" := by decide
theorem laws_eqSerialOpS.ok : EntryOK Go.Proofs.Try.prog 34 laws_eqSerialOpS.ent :=
  entry_ok (E := laws_eqSerialOpS.E) (EnvOK.of dok laws_eqSerialOpS.fok) mixed laws_eqSerialOpS.at_ laws_eqSerialOpS.bd laws_eqSerialOpS.nm laws_eqSerialOpS.ls (by intro l hl; simp only [List.mem_singleton] at hl; subst hl; exact laws_eqSerialOpS_l4.lok rfl rfl) laws_eqSerialOpS.eq
/-! ### loop.example/g00038/laws.markText -/
noncomputable def laws_markText.E4 : Env := ⟨D, [], [], []⟩
noncomputable def laws_markText_l4_step (rec : Int → ByteArray → Option ((ByteArray × Unit))) (y0 : Int) (y1 : ByteArray) : Option ((ByteArray × Unit)) :=
  bif decide (y0 > 0) then
    let x1 : Int := (wrap64 ((48 : Int) + (Int.tmod y0 10)))
    let s2 : ByteArray := b2s [(IntKind.u8.wrap (x1))]
    bif (!((10 : Int) == 0)) && (joins s2 y1) then
      let x3 : Int := (wrap64 (Int.tdiv y0 10))
      bif !((10 : Int) == 0) then
        rec x3 (s2 ++ y1)
      else none
    else none
  else
    some (y1, ())
noncomputable def laws_markText_l4 : Nat → Int → ByteArray → Option ((ByteArray × Unit))
  | 0 => fun _ _ => none
  | n + 1 => laws_markText_l4_step (laws_markText_l4 n)
noncomputable def laws_markText_l4.ent : LEntry := ⟨(.cell (.val .bor (.int .i64)) :: (sk 2 (.cell (.val .bor (.str)) :: (sk 16 [])))), rk 20 [], [], [], [⟨some 0, sk 3 (.cell (.val .bor (.str)) :: (sk 16 [])), rk 20 [], [], []⟩], fun v => laws_markText_l4 K0 v.1 v.2.1⟩
theorem laws_markText_l4.eq : ∀ rec v, evStep laws_markText.E4 (bodyAt 4 Go.Proofs.Try.f98) laws_markText_l4.ent.ins laws_markText_l4.ent.rts laws_markText_l4.ent.hm laws_markText_l4.ent.nl laws_markText_l4.ent.xs rec v = laws_markText_l4_step (fun c0 c1 => rec (c0, c1, ())) v.1 v.2.1 := by intro rec v; kernel_rfl
noncomputable def laws_markText.E : Env := ⟨D, [], [], [(4, laws_markText_l4.ent)]⟩
noncomputable def laws_markText (a0 : Int) : Option (ByteArray × Unit) :=
  bif decide (a0 ≤ 0) then
    some ((⟨#[109, 48]⟩ : ByteArray), ())
  else
    (laws_markText_l4 K0 a0 (⟨#[]⟩ : ByteArray)).bind fun o4 =>
    let s5 : ByteArray := ((⟨#[109]⟩ : ByteArray) ++ o4.1)
    bif joins (⟨#[109]⟩ : ByteArray) o4.1 then
      some (s5, ())
    else none
noncomputable def laws_markText.ent : Entry := ⟨[false], [.cell (.val .bor (.int .i64))], [.cell (.val .bor (.str))], [], fun v => laws_markText v.1⟩
theorem laws_markText.eq : ∀ v, evFn laws_markText.E Go.Proofs.Try.f98 laws_markText.ent.ptrs laws_markText.ent.ins laws_markText.ent.rets laws_markText.ent.outs v = laws_markText.ent.f v := by intro v; kernel_rfl
theorem laws_markText.fok : ∀ q ∈ ([] : List (Nat × Entry)), EntryOK Go.Proofs.Try.prog q.1 q.2 := by intro q hq; simp at hq
theorem laws_markText_l4.it : ∀ n v, iter (evStep laws_markText.E4 (bodyAt 4 Go.Proofs.Try.f98) laws_markText_l4.ent.ins laws_markText_l4.ent.rts laws_markText_l4.ent.hm laws_markText_l4.ent.nl laws_markText_l4.ent.xs) n v = laws_markText_l4 n v.1 v.2.1 := by
  intro n
  induction n with
  | zero => intro v; rfl
  | succ n ih =>
    intro v
    show (evStep laws_markText.E4 (bodyAt 4 Go.Proofs.Try.f98) laws_markText_l4.ent.ins laws_markText_l4.ent.rts laws_markText_l4.ent.hm laws_markText_l4.ent.nl laws_markText_l4.ent.xs) (iter (evStep laws_markText.E4 (bodyAt 4 Go.Proofs.Try.f98) laws_markText_l4.ent.ins laws_markText_l4.ent.rts laws_markText_l4.ent.hm laws_markText_l4.ent.nl laws_markText_l4.ent.xs) n) v = _
    rw [laws_markText_l4.eq, show (fun c0 c1 => iter (evStep laws_markText.E4 (bodyAt 4 Go.Proofs.Try.f98) laws_markText_l4.ent.ins laws_markText_l4.ent.rts laws_markText_l4.ent.hm laws_markText_l4.ent.nl laws_markText_l4.ent.xs) n (c0, c1, ())) = laws_markText_l4 n from by funext c0 c1; exact ih _]
    rfl
theorem laws_markText_l4.fr : firstRegion (bodyAt 4 Go.Proofs.Try.f98) = 4 := by kernel_rfl
theorem laws_markText_l4.ls : loopsOf (bodyAt 4 Go.Proofs.Try.f98) = [] := by kernel_rfl
theorem laws_markText_l4.lok {E : Env} (hpin : laws_markText.E4.pin = E.pin) (hfind : find 4 E.loops = some laws_markText_l4.ent) : LoopOK Go.Proofs.Try.prog E (bodyAt 4 Go.Proofs.Try.f98) :=
  loop_of (E1 := laws_markText.E4) (EnvOK.of dok laws_markText.fok) mixed hpin (by rw [laws_markText_l4.fr]; exact hfind) laws_markText_l4.ls (by intro l hl; simp at hl) (fun v => (laws_markText_l4.it K0 v).symm)
theorem laws_markText.ls : loopsOf (bodyOf Go.Proofs.Try.f98) = [bodyAt 4 Go.Proofs.Try.f98] := by kernel_rfl
theorem laws_markText.at_ : Go.Proofs.Try.prog.funcs[98]? = some Go.Proofs.Try.f98 := by kernel_rfl
theorem laws_markText.bd : Go.Proofs.Try.f98.body = some (bodyOf Go.Proofs.Try.f98) := by kernel_rfl
theorem laws_markText.nm : Go.Proofs.Try.f98.name ≠ "runtime.NumGoroutine" := by decide
theorem laws_markText.ok : EntryOK Go.Proofs.Try.prog 98 laws_markText.ent :=
  entry_ok (E := laws_markText.E) (EnvOK.of dok laws_markText.fok) mixed laws_markText.at_ laws_markText.bd laws_markText.nm laws_markText.ls (by intro l hl; simp only [List.mem_singleton] at hl; subst hl; exact laws_markText_l4.lok rfl rfl) laws_markText.eq
/-! ### loop.example/g00038/laws.markSerialOpS -/
noncomputable def laws_markSerialOpS_v2.E2 : Env := ⟨D, [0], [(98, laws_markText.ent)], []⟩
noncomputable def laws_markSerialOpS_v2_l2_step (rec : Int → Int → (List (Int × Int × Int × ByteArray)) → Option ((Int × List (Int × Int × Int × ByteArray) × Unit))) (y0 : Int) (y1 : Int) (y2 : List (Int × Int × Int × ByteArray)) : Option ((Int × List (Int × Int × Int × ByteArray) × Unit)) :=
  let b1 : Bool := decide (y1 < (y2.length : Int))
  bif b1 then
    let e2 : Int × Int × Int × ByteArray := rd R1 y2 y1
    let l3 : List (Int × Int × Int × ByteArray) := y2.set y1.toNat (y0, e2.2)
    bif decide (0 ≤ y1) && decide (y1 < (y2.length : Int)) then
      let e4 : Int × Int × Int × ByteArray := rd R1 l3 y1
      let l5 : List (Int × Int × Int × ByteArray) := l3.set y1.toNat (e4.1, (wrap64 (y0 + 1)), e4.2.2)
      bif decide (0 ≤ y1) && decide (y1 < (l3.length : Int)) then
        let x6 : Int := (wrap64 ((wrap64 (y0 + 1)) + 1))
        let e7 : Int × Int × Int × ByteArray := rd R1 l5 y1
        let l8 : List (Int × Int × Int × ByteArray) := l5.set y1.toNat (e7.1, e7.2.1, x6, e7.2.2.2)
        bif decide (0 ≤ y1) && decide (y1 < (l5.length : Int)) then
          (laws_markText (wrap64 (x6 + 1))).bind fun r9 =>
          let e10 : Int × Int × Int × ByteArray := rd R1 l8 y1
          let l11 : List (Int × Int × Int × ByteArray) := l8.set y1.toNat (e10.1, e10.2.1, e10.2.2.1, r9.1)
          bif decide (0 ≤ y1) && decide (y1 < (l8.length : Int)) then
            let x12 : Int := (wrap64 ((wrap64 (x6 + 1)) + 1))
            rec x12 (wrap64 (y1 + 1)) l11
          else none
        else none
      else none
    else none
  else
    some (y0, y2, ())
noncomputable def laws_markSerialOpS_v2_l2 : Nat → Int → Int → (List (Int × Int × Int × ByteArray)) → Option ((Int × List (Int × Int × Int × ByteArray) × Unit))
  | 0 => fun _ _ _ => none
  | n + 1 => laws_markSerialOpS_v2_l2_step (laws_markSerialOpS_v2_l2 n)
noncomputable def laws_markSerialOpS_v2_l2.ent : LEntry := ⟨(.cell (.fix (.view 0 0)) :: (.cell (.val .bor (.int .i64)) :: (sk 3 (.cell (.val .bor (.int .i64)) :: (sk 36 []))))), ([.val .lent (.slice (.pair (.int .i64) (.pair (.int .i64) (.pair (.int .i64) (.str)))))] :: (rk 41 [])), [], [], [⟨some 0, (.cell (.fix (.view 0 0)) :: (.cell (.val .bor (.int .i64)) :: (sk 40 []))), ([.val .lent (.slice (.pair (.int .i64) (.pair (.int .i64) (.pair (.int .i64) (.str)))))] :: (rk 41 [])), [], []⟩], fun v => laws_markSerialOpS_v2_l2 K0 v.1 v.2.1 v.2.2.1⟩
theorem laws_markSerialOpS_v2_l2.eq : ∀ rec v, evStep laws_markSerialOpS_v2.E2 (bodyAt 2 Go.Proofs.Try.f35) laws_markSerialOpS_v2_l2.ent.ins laws_markSerialOpS_v2_l2.ent.rts laws_markSerialOpS_v2_l2.ent.hm laws_markSerialOpS_v2_l2.ent.nl laws_markSerialOpS_v2_l2.ent.xs rec v = laws_markSerialOpS_v2_l2_step (fun c0 c1 c2 => rec (c0, c1, c2, ())) v.1 v.2.1 v.2.2.1 := by intro rec v; kernel_rfl
noncomputable def laws_markSerialOpS_v2.E : Env := ⟨D, [0], [(98, laws_markText.ent)], [(2, laws_markSerialOpS_v2_l2.ent)]⟩
noncomputable def laws_markSerialOpS_v2 (a0 : List (Int × Int × Int × ByteArray)) (a1 : Int) : Option (Int × List (Int × Int × Int × ByteArray) × Unit) :=
  (laws_markSerialOpS_v2_l2 K0 a1 0 a0).bind fun o13 =>
  some (o13.1, o13.2.1, ())
noncomputable def laws_markSerialOpS_v2.ent : Entry := ⟨[false, false], [.cell (.val .lent (.slice (.pair (.int .i64) (.pair (.int .i64) (.pair (.int .i64) (.str)))))), .cell (.val .bor (.int .i64))], [.cell (.val .bor (.int .i64))], [.cell (.val .lent (.slice (.pair (.int .i64) (.pair (.int .i64) (.pair (.int .i64) (.str))))))], fun v => laws_markSerialOpS_v2 v.1 v.2.1⟩
theorem laws_markSerialOpS_v2.eq : ∀ v, evFn laws_markSerialOpS_v2.E Go.Proofs.Try.f35 laws_markSerialOpS_v2.ent.ptrs laws_markSerialOpS_v2.ent.ins laws_markSerialOpS_v2.ent.rets laws_markSerialOpS_v2.ent.outs v = laws_markSerialOpS_v2.ent.f v := by intro v; kernel_rfl
theorem laws_markSerialOpS_v2.fok : ∀ q ∈ [((98 : Nat), laws_markText.ent)], EntryOK Go.Proofs.Try.prog q.1 q.2 := by
  intro q hq
  simp only [List.mem_cons, List.mem_nil_iff, or_false] at hq
  rcases hq with rfl
  · exact laws_markText.ok
theorem laws_markSerialOpS_v2_l2.it : ∀ n v, iter (evStep laws_markSerialOpS_v2.E2 (bodyAt 2 Go.Proofs.Try.f35) laws_markSerialOpS_v2_l2.ent.ins laws_markSerialOpS_v2_l2.ent.rts laws_markSerialOpS_v2_l2.ent.hm laws_markSerialOpS_v2_l2.ent.nl laws_markSerialOpS_v2_l2.ent.xs) n v = laws_markSerialOpS_v2_l2 n v.1 v.2.1 v.2.2.1 := by
  intro n
  induction n with
  | zero => intro v; rfl
  | succ n ih =>
    intro v
    show (evStep laws_markSerialOpS_v2.E2 (bodyAt 2 Go.Proofs.Try.f35) laws_markSerialOpS_v2_l2.ent.ins laws_markSerialOpS_v2_l2.ent.rts laws_markSerialOpS_v2_l2.ent.hm laws_markSerialOpS_v2_l2.ent.nl laws_markSerialOpS_v2_l2.ent.xs) (iter (evStep laws_markSerialOpS_v2.E2 (bodyAt 2 Go.Proofs.Try.f35) laws_markSerialOpS_v2_l2.ent.ins laws_markSerialOpS_v2_l2.ent.rts laws_markSerialOpS_v2_l2.ent.hm laws_markSerialOpS_v2_l2.ent.nl laws_markSerialOpS_v2_l2.ent.xs) n) v = _
    rw [laws_markSerialOpS_v2_l2.eq, show (fun c0 c1 c2 => iter (evStep laws_markSerialOpS_v2.E2 (bodyAt 2 Go.Proofs.Try.f35) laws_markSerialOpS_v2_l2.ent.ins laws_markSerialOpS_v2_l2.ent.rts laws_markSerialOpS_v2_l2.ent.hm laws_markSerialOpS_v2_l2.ent.nl laws_markSerialOpS_v2_l2.ent.xs) n (c0, c1, c2, ())) = laws_markSerialOpS_v2_l2 n from by funext c0 c1 c2; exact ih _]
    rfl
theorem laws_markSerialOpS_v2_l2.fr : firstRegion (bodyAt 2 Go.Proofs.Try.f35) = 2 := by kernel_rfl
theorem laws_markSerialOpS_v2_l2.ls : loopsOf (bodyAt 2 Go.Proofs.Try.f35) = [] := by kernel_rfl
theorem laws_markSerialOpS_v2_l2.lok {E : Env} (hpin : laws_markSerialOpS_v2.E2.pin = E.pin) (hfind : find 2 E.loops = some laws_markSerialOpS_v2_l2.ent) : LoopOK Go.Proofs.Try.prog E (bodyAt 2 Go.Proofs.Try.f35) :=
  loop_of (E1 := laws_markSerialOpS_v2.E2) (EnvOK.of dok laws_markSerialOpS_v2.fok) mixed hpin (by rw [laws_markSerialOpS_v2_l2.fr]; exact hfind) laws_markSerialOpS_v2_l2.ls (by intro l hl; simp at hl) (fun v => (laws_markSerialOpS_v2_l2.it K0 v).symm)
theorem laws_markSerialOpS_v2.ls : loopsOf (bodyOf Go.Proofs.Try.f35) = [bodyAt 2 Go.Proofs.Try.f35] := by kernel_rfl
theorem laws_markSerialOpS_v2.at_ : Go.Proofs.Try.prog.funcs[35]? = some Go.Proofs.Try.f35 := by kernel_rfl
theorem laws_markSerialOpS_v2.bd : Go.Proofs.Try.f35.body = some (bodyOf Go.Proofs.Try.f35) := by kernel_rfl
theorem laws_markSerialOpS_v2.nm : Go.Proofs.Try.f35.name ≠ "runtime.NumGoroutine" := by decide
theorem laws_markSerialOpS_v2.ok : EntryOK Go.Proofs.Try.prog 35 laws_markSerialOpS_v2.ent :=
  entry_ok (E := laws_markSerialOpS_v2.E) (EnvOK.of dok laws_markSerialOpS_v2.fok) mixed laws_markSerialOpS_v2.at_ laws_markSerialOpS_v2.bd laws_markSerialOpS_v2.nm laws_markSerialOpS_v2.ls (by intro l hl; simp only [List.mem_singleton] at hl; subst hl; exact laws_markSerialOpS_v2_l2.lok rfl rfl) laws_markSerialOpS_v2.eq
/-! ### loop.example/g00038/laws.markSerialOutS -/
noncomputable def laws_markSerialOutS_v2.E2 : Env := ⟨D, [0], [], []⟩
noncomputable def laws_markSerialOutS_v2_l2_step (rec : Int → Int → (List (Int × Int × Bool)) → Option ((Int × List (Int × Int × Bool) × Unit))) (y0 : Int) (y1 : Int) (y2 : List (Int × Int × Bool)) : Option ((Int × List (Int × Int × Bool) × Unit)) :=
  let b1 : Bool := decide (y1 < (y2.length : Int))
  bif b1 then
    let e2 : Int × Int × Bool := rd R2 y2 y1
    let l3 : List (Int × Int × Bool) := y2.set y1.toNat (y0, e2.2)
    bif decide (0 ≤ y1) && decide (y1 < (y2.length : Int)) then
      let e4 : Int × Int × Bool := rd R2 l3 y1
      let l5 : List (Int × Int × Bool) := l3.set y1.toNat (e4.1, (wrap64 (y0 + 1)), e4.2.2)
      bif decide (0 ≤ y1) && decide (y1 < (l3.length : Int)) then
        let x6 : Int := (wrap64 ((wrap64 (y0 + 1)) + 1))
        let e7 : Int × Int × Bool := rd R2 l5 y1
        let l8 : List (Int × Int × Bool) := l5.set y1.toNat (e7.1, e7.2.1, ((Int.tmod x6 3) == 0))
        bif (!((3 : Int) == 0)) && (decide (0 ≤ y1) && decide (y1 < (l5.length : Int))) then
          rec (wrap64 (x6 + 1)) (wrap64 (y1 + 1)) l8
        else none
      else none
    else none
  else
    some (y0, y2, ())
noncomputable def laws_markSerialOutS_v2_l2 : Nat → Int → Int → (List (Int × Int × Bool)) → Option ((Int × List (Int × Int × Bool) × Unit))
  | 0 => fun _ _ _ => none
  | n + 1 => laws_markSerialOutS_v2_l2_step (laws_markSerialOutS_v2_l2 n)
noncomputable def laws_markSerialOutS_v2_l2.ent : LEntry := ⟨(.cell (.fix (.view 0 0)) :: (.cell (.val .bor (.int .i64)) :: (sk 3 (.cell (.val .bor (.int .i64)) :: (sk 30 []))))), ([.val .lent (.slice (.pair (.int .i64) (.pair (.int .i64) (.bool))))] :: (rk 35 [])), [], [], [⟨some 0, (.cell (.fix (.view 0 0)) :: (.cell (.val .bor (.int .i64)) :: (sk 34 []))), ([.val .lent (.slice (.pair (.int .i64) (.pair (.int .i64) (.bool))))] :: (rk 35 [])), [], []⟩], fun v => laws_markSerialOutS_v2_l2 K0 v.1 v.2.1 v.2.2.1⟩
theorem laws_markSerialOutS_v2_l2.eq : ∀ rec v, evStep laws_markSerialOutS_v2.E2 (bodyAt 2 Go.Proofs.Try.f99) laws_markSerialOutS_v2_l2.ent.ins laws_markSerialOutS_v2_l2.ent.rts laws_markSerialOutS_v2_l2.ent.hm laws_markSerialOutS_v2_l2.ent.nl laws_markSerialOutS_v2_l2.ent.xs rec v = laws_markSerialOutS_v2_l2_step (fun c0 c1 c2 => rec (c0, c1, c2, ())) v.1 v.2.1 v.2.2.1 := by intro rec v; kernel_rfl
noncomputable def laws_markSerialOutS_v2.E : Env := ⟨D, [0], [], [(2, laws_markSerialOutS_v2_l2.ent)]⟩
noncomputable def laws_markSerialOutS_v2 (a0 : List (Int × Int × Bool)) (a1 : Int) : Option (Int × List (Int × Int × Bool) × Unit) :=
  (laws_markSerialOutS_v2_l2 K0 a1 0 a0).bind fun o9 =>
  some (o9.1, o9.2.1, ())
noncomputable def laws_markSerialOutS_v2.ent : Entry := ⟨[false, false], [.cell (.val .lent (.slice (.pair (.int .i64) (.pair (.int .i64) (.bool))))), .cell (.val .bor (.int .i64))], [.cell (.val .bor (.int .i64))], [.cell (.val .lent (.slice (.pair (.int .i64) (.pair (.int .i64) (.bool)))))], fun v => laws_markSerialOutS_v2 v.1 v.2.1⟩
theorem laws_markSerialOutS_v2.eq : ∀ v, evFn laws_markSerialOutS_v2.E Go.Proofs.Try.f99 laws_markSerialOutS_v2.ent.ptrs laws_markSerialOutS_v2.ent.ins laws_markSerialOutS_v2.ent.rets laws_markSerialOutS_v2.ent.outs v = laws_markSerialOutS_v2.ent.f v := by intro v; kernel_rfl
theorem laws_markSerialOutS_v2.fok : ∀ q ∈ ([] : List (Nat × Entry)), EntryOK Go.Proofs.Try.prog q.1 q.2 := by intro q hq; simp at hq
theorem laws_markSerialOutS_v2_l2.it : ∀ n v, iter (evStep laws_markSerialOutS_v2.E2 (bodyAt 2 Go.Proofs.Try.f99) laws_markSerialOutS_v2_l2.ent.ins laws_markSerialOutS_v2_l2.ent.rts laws_markSerialOutS_v2_l2.ent.hm laws_markSerialOutS_v2_l2.ent.nl laws_markSerialOutS_v2_l2.ent.xs) n v = laws_markSerialOutS_v2_l2 n v.1 v.2.1 v.2.2.1 := by
  intro n
  induction n with
  | zero => intro v; rfl
  | succ n ih =>
    intro v
    show (evStep laws_markSerialOutS_v2.E2 (bodyAt 2 Go.Proofs.Try.f99) laws_markSerialOutS_v2_l2.ent.ins laws_markSerialOutS_v2_l2.ent.rts laws_markSerialOutS_v2_l2.ent.hm laws_markSerialOutS_v2_l2.ent.nl laws_markSerialOutS_v2_l2.ent.xs) (iter (evStep laws_markSerialOutS_v2.E2 (bodyAt 2 Go.Proofs.Try.f99) laws_markSerialOutS_v2_l2.ent.ins laws_markSerialOutS_v2_l2.ent.rts laws_markSerialOutS_v2_l2.ent.hm laws_markSerialOutS_v2_l2.ent.nl laws_markSerialOutS_v2_l2.ent.xs) n) v = _
    rw [laws_markSerialOutS_v2_l2.eq, show (fun c0 c1 c2 => iter (evStep laws_markSerialOutS_v2.E2 (bodyAt 2 Go.Proofs.Try.f99) laws_markSerialOutS_v2_l2.ent.ins laws_markSerialOutS_v2_l2.ent.rts laws_markSerialOutS_v2_l2.ent.hm laws_markSerialOutS_v2_l2.ent.nl laws_markSerialOutS_v2_l2.ent.xs) n (c0, c1, c2, ())) = laws_markSerialOutS_v2_l2 n from by funext c0 c1 c2; exact ih _]
    rfl
theorem laws_markSerialOutS_v2_l2.fr : firstRegion (bodyAt 2 Go.Proofs.Try.f99) = 2 := by kernel_rfl
theorem laws_markSerialOutS_v2_l2.ls : loopsOf (bodyAt 2 Go.Proofs.Try.f99) = [] := by kernel_rfl
theorem laws_markSerialOutS_v2_l2.lok {E : Env} (hpin : laws_markSerialOutS_v2.E2.pin = E.pin) (hfind : find 2 E.loops = some laws_markSerialOutS_v2_l2.ent) : LoopOK Go.Proofs.Try.prog E (bodyAt 2 Go.Proofs.Try.f99) :=
  loop_of (E1 := laws_markSerialOutS_v2.E2) (EnvOK.of dok laws_markSerialOutS_v2.fok) mixed hpin (by rw [laws_markSerialOutS_v2_l2.fr]; exact hfind) laws_markSerialOutS_v2_l2.ls (by intro l hl; simp at hl) (fun v => (laws_markSerialOutS_v2_l2.it K0 v).symm)
theorem laws_markSerialOutS_v2.ls : loopsOf (bodyOf Go.Proofs.Try.f99) = [bodyAt 2 Go.Proofs.Try.f99] := by kernel_rfl
theorem laws_markSerialOutS_v2.at_ : Go.Proofs.Try.prog.funcs[99]? = some Go.Proofs.Try.f99 := by kernel_rfl
theorem laws_markSerialOutS_v2.bd : Go.Proofs.Try.f99.body = some (bodyOf Go.Proofs.Try.f99) := by kernel_rfl
theorem laws_markSerialOutS_v2.nm : Go.Proofs.Try.f99.name ≠ "runtime.NumGoroutine" := by decide
theorem laws_markSerialOutS_v2.ok : EntryOK Go.Proofs.Try.prog 99 laws_markSerialOutS_v2.ent :=
  entry_ok (E := laws_markSerialOutS_v2.E) (EnvOK.of dok laws_markSerialOutS_v2.fok) mixed laws_markSerialOutS_v2.at_ laws_markSerialOutS_v2.bd laws_markSerialOutS_v2.nm laws_markSerialOutS_v2.ls (by intro l hl; simp only [List.mem_singleton] at hl; subst hl; exact laws_markSerialOutS_v2_l2.lok rfl rfl) laws_markSerialOutS_v2.eq
/-! ### loop.example/g00038/laws.markSerialRun -/
noncomputable def laws_markSerialRun_v2.E : Env := ⟨D, [0], [(99, laws_markSerialOutS_v2.ent)], []⟩
noncomputable def laws_markSerialRun_v2 (a0 : Int) (a1 : ByteArray) (a2 : ByteArray) (a3 : Int) (a4 : Bool) (a5 : List (Int × Int × Bool)) (a6 : Int) : Option (Int × List (Int × Int × Bool) × Unit) :=
  (laws_markSerialOutS_v2 a5 a6).bind fun r1 =>
  some (r1.1, r1.2.1, ())
noncomputable def laws_markSerialRun_v2.ent : Entry := ⟨[false, false], [.agg [.val .bor (.int .i64), .val .bor (.str), .val .bor (.str), .val .bor (.int .i64), .val .bor (.bool), .val .lent (.slice (.pair (.int .i64) (.pair (.int .i64) (.bool))))], .cell (.val .bor (.int .i64))], [.cell (.val .bor (.int .i64))], [.cell (.val .lent (.slice (.pair (.int .i64) (.pair (.int .i64) (.bool)))))], fun v => laws_markSerialRun_v2 v.1 v.2.1 v.2.2.1 v.2.2.2.1 v.2.2.2.2.1 v.2.2.2.2.2.1 v.2.2.2.2.2.2.1⟩
theorem laws_markSerialRun_v2.eq : ∀ v, evFn laws_markSerialRun_v2.E Go.Proofs.Try.f36 laws_markSerialRun_v2.ent.ptrs laws_markSerialRun_v2.ent.ins laws_markSerialRun_v2.ent.rets laws_markSerialRun_v2.ent.outs v = laws_markSerialRun_v2.ent.f v := by intro v; kernel_rfl
theorem laws_markSerialRun_v2.fok : ∀ q ∈ [((99 : Nat), laws_markSerialOutS_v2.ent)], EntryOK Go.Proofs.Try.prog q.1 q.2 := by
  intro q hq
  simp only [List.mem_cons, List.mem_nil_iff, or_false] at hq
  rcases hq with rfl
  · exact laws_markSerialOutS_v2.ok
theorem laws_markSerialRun_v2.ls : loopsOf (bodyOf Go.Proofs.Try.f36) = [] := by kernel_rfl
theorem laws_markSerialRun_v2.at_ : Go.Proofs.Try.prog.funcs[36]? = some Go.Proofs.Try.f36 := by kernel_rfl
theorem laws_markSerialRun_v2.bd : Go.Proofs.Try.f36.body = some (bodyOf Go.Proofs.Try.f36) := by kernel_rfl
theorem laws_markSerialRun_v2.nm : Go.Proofs.Try.f36.name ≠ "runtime.NumGoroutine" := by decide
theorem laws_markSerialRun_v2.ok : EntryOK Go.Proofs.Try.prog 36 laws_markSerialRun_v2.ent :=
  entry_ok (E := laws_markSerialRun_v2.E) (EnvOK.of dok laws_markSerialRun_v2.fok) mixed laws_markSerialRun_v2.at_ laws_markSerialRun_v2.bd laws_markSerialRun_v2.nm laws_markSerialRun_v2.ls (by intro l hl; simp at hl) laws_markSerialRun_v2.eq
/-! ### loop.example/g00038/laws.heldSerialOutS -/
noncomputable def laws_heldSerialOutS.E2 : Env := ⟨D, [], [], []⟩
noncomputable def laws_heldSerialOutS_l2_step (rec : (List (Int × Int × Bool)) → Int → Int → Option ((Int × Unit) ⊕ (Int × Unit))) (y0 : List (Int × Int × Bool)) (y1 : Int) (y2 : Int) : Option ((Int × Unit) ⊕ (Int × Unit)) :=
  let b1 : Bool := decide (y2 < (y0.length : Int))
  bif b1 then
    let e2 : Int × Int × Bool := rd R2 y0 y2
    bif decide (0 ≤ y2) && decide (y2 < (y0.length : Int)) then
      bif (e2.1 != y1) then
        some (Sum.inl (-1, ()))
      else
        let b3 : Bool := (e2.2.1 != (wrap64 (y1 + 1)))
        bif decide (0 ≤ y2) && decide (y2 < (y0.length : Int)) then
          bif b3 then
            some (Sum.inl (-1, ()))
          else
            let x4 : Int := (wrap64 ((wrap64 (y1 + 1)) + 1))
            bif (decide (0 ≤ y2) && decide (y2 < (y0.length : Int))) && (!((3 : Int) == 0)) then
              bif !(e2.2.2 == ((Int.tmod x4 3) == 0)) then
                some (Sum.inl (-1, ()))
              else
                rec y0 (wrap64 (x4 + 1)) (wrap64 (y2 + 1))
            else none
        else none
    else none
  else
    some (Sum.inr (y1, ()))
noncomputable def laws_heldSerialOutS_l2 : Nat → (List (Int × Int × Bool)) → Int → Int → Option ((Int × Unit) ⊕ (Int × Unit))
  | 0 => fun _ _ _ => none
  | n + 1 => laws_heldSerialOutS_l2_step (laws_heldSerialOutS_l2 n)
noncomputable def laws_heldSerialOutS_l2.ent : LEntry := ⟨(.cell (.val .bor (.slice (.pair (.int .i64) (.pair (.int .i64) (.bool))))) :: (.cell (.val .bor (.int .i64)) :: (sk 3 (.cell (.val .bor (.int .i64)) :: (sk 36 []))))), rk 42 [], [], [], [⟨none, sk 4 (.cell (.val .bor (.int .i64)) :: (sk 37 [])), rk 42 [], [], []⟩, ⟨some 0, sk 1 (.cell (.val .bor (.int .i64)) :: (sk 40 [])), rk 42 [], [], []⟩], fun v => laws_heldSerialOutS_l2 K0 v.1 v.2.1 v.2.2.1⟩
theorem laws_heldSerialOutS_l2.eq : ∀ rec v, evStep laws_heldSerialOutS.E2 (bodyAt 2 Go.Proofs.Try.f100) laws_heldSerialOutS_l2.ent.ins laws_heldSerialOutS_l2.ent.rts laws_heldSerialOutS_l2.ent.hm laws_heldSerialOutS_l2.ent.nl laws_heldSerialOutS_l2.ent.xs rec v = laws_heldSerialOutS_l2_step (fun c0 c1 c2 => rec (c0, c1, c2, ())) v.1 v.2.1 v.2.2.1 := by intro rec v; kernel_rfl
noncomputable def laws_heldSerialOutS.E : Env := ⟨D, [], [], [(2, laws_heldSerialOutS_l2.ent)]⟩
noncomputable def laws_heldSerialOutS (a0 : List (Int × Int × Bool)) (a1 : Int) : Option (Int × Unit) :=
  (laws_heldSerialOutS_l2 K0 a0 a1 0).bind fun o5 =>
  match o5 with
  | Sum.inl p6 =>
    some (p6.1, ())
  | Sum.inr p7 =>
    some (p7.1, ())
noncomputable def laws_heldSerialOutS.ent : Entry := ⟨[false, false], [.cell (.val .bor (.slice (.pair (.int .i64) (.pair (.int .i64) (.bool))))), .cell (.val .bor (.int .i64))], [.cell (.val .bor (.int .i64))], [], fun v => laws_heldSerialOutS v.1 v.2.1⟩
theorem laws_heldSerialOutS.eq : ∀ v, evFn laws_heldSerialOutS.E Go.Proofs.Try.f100 laws_heldSerialOutS.ent.ptrs laws_heldSerialOutS.ent.ins laws_heldSerialOutS.ent.rets laws_heldSerialOutS.ent.outs v = laws_heldSerialOutS.ent.f v := by intro v; kernel_rfl
theorem laws_heldSerialOutS.fok : ∀ q ∈ ([] : List (Nat × Entry)), EntryOK Go.Proofs.Try.prog q.1 q.2 := by intro q hq; simp at hq
theorem laws_heldSerialOutS_l2.it : ∀ n v, iter (evStep laws_heldSerialOutS.E2 (bodyAt 2 Go.Proofs.Try.f100) laws_heldSerialOutS_l2.ent.ins laws_heldSerialOutS_l2.ent.rts laws_heldSerialOutS_l2.ent.hm laws_heldSerialOutS_l2.ent.nl laws_heldSerialOutS_l2.ent.xs) n v = laws_heldSerialOutS_l2 n v.1 v.2.1 v.2.2.1 := by
  intro n
  induction n with
  | zero => intro v; rfl
  | succ n ih =>
    intro v
    show (evStep laws_heldSerialOutS.E2 (bodyAt 2 Go.Proofs.Try.f100) laws_heldSerialOutS_l2.ent.ins laws_heldSerialOutS_l2.ent.rts laws_heldSerialOutS_l2.ent.hm laws_heldSerialOutS_l2.ent.nl laws_heldSerialOutS_l2.ent.xs) (iter (evStep laws_heldSerialOutS.E2 (bodyAt 2 Go.Proofs.Try.f100) laws_heldSerialOutS_l2.ent.ins laws_heldSerialOutS_l2.ent.rts laws_heldSerialOutS_l2.ent.hm laws_heldSerialOutS_l2.ent.nl laws_heldSerialOutS_l2.ent.xs) n) v = _
    rw [laws_heldSerialOutS_l2.eq, show (fun c0 c1 c2 => iter (evStep laws_heldSerialOutS.E2 (bodyAt 2 Go.Proofs.Try.f100) laws_heldSerialOutS_l2.ent.ins laws_heldSerialOutS_l2.ent.rts laws_heldSerialOutS_l2.ent.hm laws_heldSerialOutS_l2.ent.nl laws_heldSerialOutS_l2.ent.xs) n (c0, c1, c2, ())) = laws_heldSerialOutS_l2 n from by funext c0 c1 c2; exact ih _]
    rfl
theorem laws_heldSerialOutS_l2.fr : firstRegion (bodyAt 2 Go.Proofs.Try.f100) = 2 := by kernel_rfl
theorem laws_heldSerialOutS_l2.ls : loopsOf (bodyAt 2 Go.Proofs.Try.f100) = [] := by kernel_rfl
theorem laws_heldSerialOutS_l2.lok {E : Env} (hpin : laws_heldSerialOutS.E2.pin = E.pin) (hfind : find 2 E.loops = some laws_heldSerialOutS_l2.ent) : LoopOK Go.Proofs.Try.prog E (bodyAt 2 Go.Proofs.Try.f100) :=
  loop_of (E1 := laws_heldSerialOutS.E2) (EnvOK.of dok laws_heldSerialOutS.fok) mixed hpin (by rw [laws_heldSerialOutS_l2.fr]; exact hfind) laws_heldSerialOutS_l2.ls (by intro l hl; simp at hl) (fun v => (laws_heldSerialOutS_l2.it K0 v).symm)
theorem laws_heldSerialOutS.ls : loopsOf (bodyOf Go.Proofs.Try.f100) = [bodyAt 2 Go.Proofs.Try.f100] := by kernel_rfl
theorem laws_heldSerialOutS.at_ : Go.Proofs.Try.prog.funcs[100]? = some Go.Proofs.Try.f100 := by kernel_rfl
theorem laws_heldSerialOutS.bd : Go.Proofs.Try.f100.body = some (bodyOf Go.Proofs.Try.f100) := by kernel_rfl
theorem laws_heldSerialOutS.nm : Go.Proofs.Try.f100.name ≠ "runtime.NumGoroutine" := by decide
theorem laws_heldSerialOutS.ok : EntryOK Go.Proofs.Try.prog 100 laws_heldSerialOutS.ent :=
  entry_ok (E := laws_heldSerialOutS.E) (EnvOK.of dok laws_heldSerialOutS.fok) mixed laws_heldSerialOutS.at_ laws_heldSerialOutS.bd laws_heldSerialOutS.nm laws_heldSerialOutS.ls (by intro l hl; simp only [List.mem_singleton] at hl; subst hl; exact laws_heldSerialOutS_l2.lok rfl rfl) laws_heldSerialOutS.eq
/-! ### loop.example/g00038/laws.heldSerialRun -/
noncomputable def laws_heldSerialRun.E : Env := ⟨D, [], [(100, laws_heldSerialOutS.ent)], []⟩
noncomputable def laws_heldSerialRun (a0 : Int) (a1 : ByteArray) (a2 : ByteArray) (a3 : Int) (a4 : Bool) (a5 : List (Int × Int × Bool)) (a6 : Int) : Option (Int × Unit) :=
  (laws_heldSerialOutS a5 a6).bind fun r1 =>
  bif decide (r1.1 < 0) then
    some (-1, ())
  else
    some (r1.1, ())
noncomputable def laws_heldSerialRun.ent : Entry := ⟨[false, false], [.agg [.val .bor (.int .i64), .val .bor (.str), .val .bor (.str), .val .bor (.int .i64), .val .bor (.bool), .val .bor (.slice (.pair (.int .i64) (.pair (.int .i64) (.bool))))], .cell (.val .bor (.int .i64))], [.cell (.val .bor (.int .i64))], [], fun v => laws_heldSerialRun v.1 v.2.1 v.2.2.1 v.2.2.2.1 v.2.2.2.2.1 v.2.2.2.2.2.1 v.2.2.2.2.2.2.1⟩
theorem laws_heldSerialRun.eq : ∀ v, evFn laws_heldSerialRun.E Go.Proofs.Try.f37 laws_heldSerialRun.ent.ptrs laws_heldSerialRun.ent.ins laws_heldSerialRun.ent.rets laws_heldSerialRun.ent.outs v = laws_heldSerialRun.ent.f v := by intro v; kernel_rfl
theorem laws_heldSerialRun.fok : ∀ q ∈ [((100 : Nat), laws_heldSerialOutS.ent)], EntryOK Go.Proofs.Try.prog q.1 q.2 := by
  intro q hq
  simp only [List.mem_cons, List.mem_nil_iff, or_false] at hq
  rcases hq with rfl
  · exact laws_heldSerialOutS.ok
theorem laws_heldSerialRun.ls : loopsOf (bodyOf Go.Proofs.Try.f37) = [] := by kernel_rfl
theorem laws_heldSerialRun.at_ : Go.Proofs.Try.prog.funcs[37]? = some Go.Proofs.Try.f37 := by kernel_rfl
theorem laws_heldSerialRun.bd : Go.Proofs.Try.f37.body = some (bodyOf Go.Proofs.Try.f37) := by kernel_rfl
theorem laws_heldSerialRun.nm : Go.Proofs.Try.f37.name ≠ "runtime.NumGoroutine" := by decide
theorem laws_heldSerialRun.ok : EntryOK Go.Proofs.Try.prog 37 laws_heldSerialRun.ent :=
  entry_ok (E := laws_heldSerialRun.E) (EnvOK.of dok laws_heldSerialRun.fok) mixed laws_heldSerialRun.at_ laws_heldSerialRun.bd laws_heldSerialRun.nm laws_heldSerialRun.ls (by intro l hl; simp at hl) laws_heldSerialRun.eq
/-! ### loop.example/g00038/laws.FnExactRunSerial -/
noncomputable def laws_FnExactRunSerial.E : Env := ⟨D, [], [(27, laws_szSerial.ent), (28, laws_szSerialOpS.ent), (30, laws_toSerial.ent), (31, laws_toSerialOpS.ent), (29, spec_RunSerial.ent), (32, impl_RunSerial.ent), (33, laws_eqSerialRun.ent), (34, laws_eqSerialOpS.ent), (35, laws_markSerialOpS_v2.ent), (36, laws_markSerialRun_v2.ent), (37, laws_heldSerialRun.ent)], []⟩
noncomputable def laws_FnExactRunSerial (a0 : ByteArray) (a1 : ByteArray) (a2 : Int) (a3 : Bool) (a4 : List (Int × Int × Int × ByteArray)) : Option (Bool × Unit) :=
  (laws_szSerial a0 a1 a2 a3 1048576).bind fun r1 =>
  bif decide (r1.1 < 0) then
    some (true, ())
  else
    (laws_szSerialOpS a4 r1.1).bind fun r2 =>
    bif decide (r2.1 < 0) then
      some (true, ())
    else
      (laws_toSerial a0 a1 a2 a3).bind fun r3 =>
      (laws_toSerialOpS a4).bind fun r4 =>
      (spec_RunSerial r3.1 r3.2.1 r3.2.2.1 r3.2.2.2.1 r4.1).bind fun r5 =>
      (laws_toSerialOpS a4).bind fun r6 =>
      (laws_toSerial a0 a1 a2 a3).bind fun r7 =>
      (impl_RunSerial r7.1 r7.2.1 r7.2.2.1 r7.2.2.2.1 r6.1).bind fun r8 =>
      (laws_eqSerialRun r8.1 r8.2.1 r8.2.2.1 r8.2.2.2.1 r8.2.2.2.2.1 r8.2.2.2.2.2.1 r5.1 r5.2.1 r5.2.2.1 r5.2.2.2.1 r5.2.2.2.2.1 r5.2.2.2.2.2.1).bind fun r9 =>
      bif !r9.1 then
        some (false, ())
      else
        (laws_toSerialOpS a4).bind fun r10 =>
        (laws_eqSerialOpS r6.1 r10.1).bind fun r11 =>
        bif !r11.1 then
          some (false, ())
        else
          (laws_markSerialOpS_v2 r6.1 1).bind fun r12 =>
          let r13 : Bool × Unit := (laws_eqSerialRun r8.1 r8.2.1 r8.2.2.1 r8.2.2.2.1 r8.2.2.2.2.1 r8.2.2.2.2.2.1 r5.1 r5.2.1 r5.2.2.1 r5.2.2.2.1 r5.2.2.2.2.1 r5.2.2.2.2.2.1).getD (false, ())
          let b14 : Bool := (decide (r12.1 < 0) || !r13.1)
          bif (!(!(decide (r12.1 < 0))) || (laws_eqSerialRun r8.1 r8.2.1 r8.2.2.1 r8.2.2.2.1 r8.2.2.2.2.1 r8.2.2.2.2.2.1 r5.1 r5.2.1 r5.2.2.1 r5.2.2.2.1 r5.2.2.2.2.1 r5.2.2.2.2.2.1).isSome) then
            bif b14 then
              some (false, ())
            else
              (laws_markSerialRun_v2 r8.1 r8.2.1 r8.2.2.1 r8.2.2.2.1 r8.2.2.2.2.1 r8.2.2.2.2.2.1 1).bind fun r15 =>
              (laws_heldSerialRun r8.1 r8.2.1 r8.2.2.1 r8.2.2.2.1 r8.2.2.2.2.1 r15.2.1 1).bind fun r16 =>
              bif decide (r16.1 < 0) then
                some (false, ())
              else
              bif (r16.1 != r15.1) then
                some (false, ())
              else
                (laws_toSerial a0 a1 a2 a3).bind fun r17 =>
                (laws_toSerialOpS a4).bind fun r18 =>
                (impl_RunSerial r17.1 r17.2.1 r17.2.2.1 r17.2.2.2.1 r18.1).bind fun r19 =>
                (laws_eqSerialRun r19.1 r19.2.1 r19.2.2.1 r19.2.2.2.1 r19.2.2.2.2.1 r19.2.2.2.2.2.1 r5.1 r5.2.1 r5.2.2.1 r5.2.2.2.1 r5.2.2.2.2.1 r5.2.2.2.2.2.1).bind fun r20 =>
                bif !r20.1 then
                  some (false, ())
                else
                  (laws_heldSerialRun r8.1 r8.2.1 r8.2.2.1 r8.2.2.2.1 r8.2.2.2.2.1 r15.2.1 1).bind fun r21 =>
                  bif decide (r21.1 < 0) then
                    some (false, ())
                  else
                  bif (r21.1 != r15.1) then
                    some (false, ())
                  else
                    some (true, ())
          else none
noncomputable def laws_FnExactRunSerial.ent : Entry := ⟨[false, false], [.agg [.val .bor (.str), .val .bor (.str), .val .bor (.int .i64), .val .bor (.bool)], .cell (.val .imm (.slice (.pair (.int .i64) (.pair (.int .i64) (.pair (.int .i64) (.str))))))], [.cell (.val .bor (.bool))], [], fun v => laws_FnExactRunSerial v.1 v.2.1 v.2.2.1 v.2.2.2.1 v.2.2.2.2.1⟩
theorem laws_FnExactRunSerial.eq : ∀ v, evFn laws_FnExactRunSerial.E Go.Proofs.Try.f6 laws_FnExactRunSerial.ent.ptrs laws_FnExactRunSerial.ent.ins laws_FnExactRunSerial.ent.rets laws_FnExactRunSerial.ent.outs v = laws_FnExactRunSerial.ent.f v := by intro v; kernel_rfl
theorem laws_FnExactRunSerial.fok : ∀ q ∈ [((27 : Nat), laws_szSerial.ent), ((28 : Nat), laws_szSerialOpS.ent), ((30 : Nat), laws_toSerial.ent), ((31 : Nat), laws_toSerialOpS.ent), ((29 : Nat), spec_RunSerial.ent), ((32 : Nat), impl_RunSerial.ent), ((33 : Nat), laws_eqSerialRun.ent), ((34 : Nat), laws_eqSerialOpS.ent), ((35 : Nat), laws_markSerialOpS_v2.ent), ((36 : Nat), laws_markSerialRun_v2.ent), ((37 : Nat), laws_heldSerialRun.ent)], EntryOK Go.Proofs.Try.prog q.1 q.2 := by
  intro q hq
  simp only [List.mem_cons, List.mem_nil_iff, or_false] at hq
  rcases hq with rfl | rfl | rfl | rfl | rfl | rfl | rfl | rfl | rfl | rfl | rfl
  · exact laws_szSerial.ok
  · exact laws_szSerialOpS.ok
  · exact laws_toSerial.ok
  · exact laws_toSerialOpS.ok
  · exact spec_RunSerial.ok
  · exact impl_RunSerial.ok
  · exact laws_eqSerialRun.ok
  · exact laws_eqSerialOpS.ok
  · exact laws_markSerialOpS_v2.ok
  · exact laws_markSerialRun_v2.ok
  · exact laws_heldSerialRun.ok
theorem laws_FnExactRunSerial.ls : loopsOf (bodyOf Go.Proofs.Try.f6) = [] := by kernel_rfl
theorem laws_FnExactRunSerial.at_ : Go.Proofs.Try.prog.funcs[6]? = some Go.Proofs.Try.f6 := by kernel_rfl
theorem laws_FnExactRunSerial.bd : Go.Proofs.Try.f6.body = some (bodyOf Go.Proofs.Try.f6) := by kernel_rfl
theorem laws_FnExactRunSerial.nm : Go.Proofs.Try.f6.name ≠ "runtime.NumGoroutine" := by decide
theorem laws_FnExactRunSerial.ok : EntryOK Go.Proofs.Try.prog 6 laws_FnExactRunSerial.ent :=
  entry_ok (E := laws_FnExactRunSerial.E) (EnvOK.of dok laws_FnExactRunSerial.fok) mixed laws_FnExactRunSerial.at_ laws_FnExactRunSerial.bd laws_FnExactRunSerial.nm laws_FnExactRunSerial.ls (by intro l hl; simp at hl) laws_FnExactRunSerial.eq
end Go.Ab.FnExactRunSerial