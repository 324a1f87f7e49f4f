import Derived.Test.YtaopkodopglgeaaProg
import Derived.Test.YtaopkodopglgeaaAbD
namespace Go.Ab.FnExactTlbFlush
open Go.RowKit
set_option linter.unusedVariables false
set_option maxRecDepth 100000
noncomputable def tds : List (Option TD) := [
  none,
  some ⟨.other, 1, .opq, 8, false⟩,
  some ⟨.int .i64, 1, .int .i64, 8, false⟩,
  some ⟨.int .i64, 1, .int .i64, 8, false⟩,
  some ⟨.bool, 1, .bool, 1, false⟩,
  some ⟨.int .u8, 1, .int .u8, 1, false⟩,
  some ⟨.int .u8, 1, .int .u8, 1, false⟩,
  some ⟨.struct [(0, 2), (1, 3), (2, 4), (3, 6)], 4, .pair (.int .i64) (.pair (.int .i64) (.pair (.bool) (.int .u8))), 24, true⟩,
  some ⟨.struct [(0, 2), (1, 3), (2, 4), (3, 6)], 4, .pair (.int .i64) (.pair (.int .i64) (.pair (.bool) (.int .u8))), 24, true⟩,
  some ⟨.str, 1, .str, 16, false⟩,
  some ⟨.str, 1, .str, 16, false⟩,
  some ⟨.str, 1, .str, 16, false⟩,
  some ⟨.int .u64, 1, .int .u64, 8, false⟩,
  none,
  none,
  some ⟨.ptr 215, 1, .opq, 8, false⟩,
  some ⟨.ptr 218, 1, .opq, 8, false⟩,
  some ⟨.ptr 228, 1, .opq, 8, false⟩,
  some ⟨.struct [(0, 17)], 1, .opq, 8, true⟩,
  some ⟨.struct [(0, 17)], 1, .opq, 8, true⟩,
  none,
  some ⟨.int .i32, 1, .int .i32, 4, false⟩,
  some ⟨.slice 177, 1, .slice (.pair (.int .i64) (.pair (.int .i64) (.pair (.int .i64) (.pair (.int .i64) (.bool))))), 24, false⟩,
  some ⟨.struct [(0, 22), (1, 2)], 2, .pair (.slice (.pair (.int .i64) (.pair (.int .i64) (.pair (.int .i64) (.pair (.int .i64) (.bool)))))) (.int .i64), 32, true⟩,
  some ⟨.struct [(0, 22), (1, 2)], 2, .pair (.slice (.pair (.int .i64) (.pair (.int .i64) (.pair (.int .i64) (.pair (.int .i64) (.bool)))))) (.int .i64), 32, true⟩,
  some ⟨.other, 1, .opq, 8, false⟩,
  some ⟨.struct [(0, 4), (1, 2), (2, 2)], 3, .pair (.bool) (.pair (.int .i64) (.int .i64)), 24, true⟩,
  some ⟨.struct [(0, 4), (1, 2), (2, 2)], 3, .pair (.bool) (.pair (.int .i64) (.int .i64)), 24, true⟩,
  some ⟨.other, 1, .opq, 8, false⟩,
  some ⟨.slice 50, 1, .slice (.pair (.int .i64) (.pair (.int .i64) (.pair (.int .i64) (.pair (.int .i64) (.bool))))), 24, false⟩,
  some ⟨.struct [(0, 29), (1, 2)], 2, .pair (.slice (.pair (.int .i64) (.pair (.int .i64) (.pair (.int .i64) (.pair (.int .i64) (.bool)))))) (.int .i64), 32, true⟩,
  some ⟨.struct [(0, 29), (1, 2)], 2, .pair (.slice (.pair (.int .i64) (.pair (.int .i64) (.pair (.int .i64) (.pair (.int .i64) (.bool)))))) (.int .i64), 32, true⟩,
  some ⟨.other, 1, .opq, 8, false⟩,
  some ⟨.other, 1, .opq, 8, false⟩,
  some ⟨.other, 1, .opq, 8, false⟩,
  some ⟨.other, 1, .opq, 8, false⟩,
  some ⟨.other, 1, .opq, 8, false⟩,
  some ⟨.other, 1, .opq, 8, false⟩,
  some ⟨.other, 1, .opq, 8, false⟩,
  some ⟨.slice 5, 1, .slice (.int .u8), 24, false⟩,
  none,
  some ⟨.other, 1, .opq, 8, false⟩,
  some ⟨.other, 1, .opq, 8, false⟩,
  some ⟨.slice 2, 1, .slice (.int .i64), 24, false⟩,
  some ⟨.struct [(0, 2), (1, 2), (2, 2), (3, 4), (4, 43), (5, 9)], 6, .pair (.int .i64) (.pair (.int .i64) (.pair (.int .i64) (.pair (.bool) (.pair (.slice (.int .i64)) (.str))))), 72, true⟩,
  some ⟨.struct [(0, 2), (1, 2), (2, 2), (3, 4), (4, 43), (5, 9)], 6, .pair (.int .i64) (.pair (.int .i64) (.pair (.int .i64) (.pair (.bool) (.pair (.slice (.int .i64)) (.str))))), 72, true⟩,
  some ⟨.other, 1, .opq, 8, false⟩,
  some ⟨.other, 1, .opq, 8, false⟩,
  some ⟨.int .u64, 1, .int .u64, 8, false⟩,
  some ⟨.struct [(0, 2), (1, 2), (2, 2), (3, 2), (4, 4)], 5, .pair (.int .i64) (.pair (.int .i64) (.pair (.int .i64) (.pair (.int .i64) (.bool)))), 40, true⟩,
  some ⟨.struct [(0, 2), (1, 2), (2, 2), (3, 2), (4, 4)], 5, .pair (.int .i64) (.pair (.int .i64) (.pair (.int .i64) (.pair (.int .i64) (.bool)))), 40, true⟩,
  some ⟨.other, 1, .opq, 8, false⟩,
  some ⟨.other, 1, .opq, 8, false⟩,
  some ⟨.struct [(0, 9), (1, 9), (2, 2), (3, 4)], 4, .pair (.str) (.pair (.str) (.pair (.int .i64) (.bool))), 48, true⟩,
  some ⟨.struct [(0, 9), (1, 9), (2, 2), (3, 4)], 4, .pair (.str) (.pair (.str) (.pair (.int .i64) (.bool))), 48, true⟩,
  some ⟨.slice 140, 1, .slice (.pair (.int .i64) (.pair (.int .i64) (.pair (.int .i64) (.str)))), 24, false⟩,
  some ⟨.other, 1, .opq, 8, false⟩,
  some ⟨.other, 1, .opq, 8, false⟩,
  some ⟨.struct [(0, 9), (1, 9), (2, 2), (3, 4)], 4, .pair (.str) (.pair (.str) (.pair (.int .i64) (.bool))), 48, true⟩,
  some ⟨.slice 74, 1, .slice (.pair (.int .i64) (.pair (.int .i64) (.bool))), 24, false⟩,
  some ⟨.struct [(0, 2), (1, 58), (5, 59)], 6, .pair (.int .i64) (.pair (.str) (.pair (.str) (.pair (.int .i64) (.pair (.bool) (.slice (.pair (.int .i64) (.pair (.int .i64) (.bool)))))))), 80, true⟩,
  some ⟨.struct [(0, 2), (1, 58), (5, 59)], 6, .pair (.int .i64) (.pair (.str) (.pair (.str) (.pair (.int .i64) (.pair (.bool) (.slice (.pair (.int .i64) (.pair (.int .i64) (.bool)))))))), 80, true⟩,
  some ⟨.other, 1, .opq, 8, false⟩,
  some ⟨.other, 1, .opq, 8, false⟩,
  some ⟨.slice 76, 1, .slice (.pair (.int .i64) (.pair (.int .i64) (.pair (.int .i64) (.str)))), 24, false⟩,
  some ⟨.other, 1, .opq, 8, false⟩,
  some ⟨.other, 1, .opq, 8, false⟩,
  some ⟨.other, 1, .opq, 8, false⟩,
  some ⟨.other, 1, .opq, 8, false⟩,
  some ⟨.other, 1, .opq, 8, false⟩,
  some ⟨.other, 1, .opq, 8, false⟩,
  none,
  some ⟨.other, 1, .opq, 8, false⟩,
  some ⟨.struct [(0, 2), (1, 2), (2, 4)], 3, .pair (.int .i64) (.pair (.int .i64) (.bool)), 24, true⟩,
  some ⟨.struct [(0, 2), (1, 2), (2, 4)], 3, .pair (.int .i64) (.pair (.int .i64) (.bool)), 24, true⟩,
  some ⟨.struct [(0, 2), (1, 2), (2, 2), (3, 9)], 4, .pair (.int .i64) (.pair (.int .i64) (.pair (.int .i64) (.str))), 40, true⟩,
  some ⟨.struct [(0, 2), (1, 2), (2, 2), (3, 9)], 4, .pair (.int .i64) (.pair (.int .i64) (.pair (.int .i64) (.str))), 40, true⟩,
  some ⟨.other, 1, .opq, 8, false⟩,
  some ⟨.slice 162, 1, .slice (.pair (.int .i64) (.pair (.int .i64) (.int .i64))), 24, false⟩,
  some ⟨.struct [(0, 2), (1, 2), (2, 2), (3, 2), (4, 2), (5, 4), (6, 78)], 7, .pair (.int .i64) (.pair (.int .i64) (.pair (.int .i64) (.pair (.int .i64) (.pair (.int .i64) (.pair (.bool) (.slice (.pair (.int .i64) (.pair (.int .i64) (.int .i64))))))))), 72, true⟩,
  some ⟨.struct [(0, 2), (1, 2), (2, 2), (3, 2), (4, 2), (5, 4), (6, 78)], 7, .pair (.int .i64) (.pair (.int .i64) (.pair (.int .i64) (.pair (.int .i64) (.pair (.int .i64) (.pair (.bool) (.slice (.pair (.int .i64) (.pair (.int .i64) (.int .i64))))))))), 72, true⟩,
  some ⟨.slice 164, 1, .slice (.pair (.int .i64) (.pair (.int .i64) (.pair (.int .i64) (.pair (.int .i64) (.pair (.int .i64) (.pair (.int .i64) (.int .i64))))))), 24, false⟩,
  some ⟨.other, 1, .opq, 8, false⟩,
  some ⟨.other, 1, .opq, 8, false⟩,
  some ⟨.slice 105, 1, .slice (.pair (.int .i64) (.pair (.int .i64) (.int .i64))), 24, false⟩,
  some ⟨.struct [(0, 2), (1, 2), (2, 2), (3, 2), (4, 2), (5, 4), (6, 84)], 7, .pair (.int .i64) (.pair (.int .i64) (.pair (.int .i64) (.pair (.int .i64) (.pair (.int .i64) (.pair (.bool) (.slice (.pair (.int .i64) (.pair (.int .i64) (.int .i64))))))))), 72, true⟩,
  some ⟨.struct [(0, 2), (1, 2), (2, 2), (3, 2), (4, 2), (5, 4), (6, 84)], 7, .pair (.int .i64) (.pair (.int .i64) (.pair (.int .i64) (.pair (.int .i64) (.pair (.int .i64) (.pair (.bool) (.slice (.pair (.int .i64) (.pair (.int .i64) (.int .i64))))))))), 72, true⟩,
  some ⟨.slice 157, 1, .slice (.pair (.int .i64) (.pair (.int .i64) (.slice (.int .i64)))), 24, false⟩,
  some ⟨.struct [(0, 2), (1, 86), (8, 87)], 9, .pair (.int .i64) (.pair (.int .i64) (.pair (.int .i64) (.pair (.int .i64) (.pair (.int .i64) (.pair (.int .i64) (.pair (.bool) (.pair (.slice (.pair (.int .i64) (.pair (.int .i64) (.int .i64)))) (.slice (.pair (.int .i64) (.pair (.int .i64) (.slice (.int .i64)))))))))))), 104, true⟩,
  some ⟨.struct [(0, 2), (1, 86), (8, 87)], 9, .pair (.int .i64) (.pair (.int .i64) (.pair (.int .i64) (.pair (.int .i64) (.pair (.int .i64) (.pair (.int .i64) (.pair (.bool) (.pair (.slice (.pair (.int .i64) (.pair (.int .i64) (.int .i64)))) (.slice (.pair (.int .i64) (.pair (.int .i64) (.slice (.int .i64)))))))))))), 104, true⟩,
  some ⟨.other, 1, .opq, 8, false⟩,
  some ⟨.other, 1, .opq, 8, false⟩,
  some ⟨.slice 107, 1, .slice (.pair (.int .i64) (.pair (.int .i64) (.pair (.int .i64) (.pair (.int .i64) (.pair (.int .i64) (.pair (.int .i64) (.int .i64))))))), 24, false⟩,
  some ⟨.other, 1, .opq, 8, false⟩,
  some ⟨.other, 1, .opq, 8, false⟩,
  some ⟨.other, 1, .opq, 8, false⟩,
  some ⟨.other, 1, .opq, 8, false⟩,
  some ⟨.other, 1, .opq, 8, false⟩,
  some ⟨.other, 1, .opq, 8, false⟩,
  some ⟨.other, 1, .opq, 8, false⟩,
  some ⟨.other, 1, .opq, 8, false⟩,
  some ⟨.other, 1, .opq, 8, false⟩,
  some ⟨.other, 1, .opq, 8, false⟩,
  some ⟨.other, 1, .opq, 8, false⟩,
  some ⟨.struct [(0, 2), (1, 2), (2, 2)], 3, .pair (.int .i64) (.pair (.int .i64) (.int .i64)), 24, true⟩,
  some ⟨.struct [(0, 2), (1, 2), (2, 2)], 3, .pair (.int .i64) (.pair (.int .i64) (.int .i64)), 24, true⟩,
  some ⟨.struct [(0, 2), (1, 2), (2, 2), (3, 2), (4, 105)], 7, .pair (.int .i64) (.pair (.int .i64) (.pair (.int .i64) (.pair (.int .i64) (.pair (.int .i64) (.pair (.int .i64) (.int .i64)))))), 56, true⟩,
  some ⟨.struct [(0, 2), (1, 2), (2, 2), (3, 2), (4, 105)], 7, .pair (.int .i64) (.pair (.int .i64) (.pair (.int .i64) (.pair (.int .i64) (.pair (.int .i64) (.pair (.int .i64) (.int .i64)))))), 56, true⟩,
  some ⟨.other, 1, .opq, 8, false⟩,
  some ⟨.other, 1, .opq, 8, false⟩,
  some ⟨.other, 1, .opq, 8, false⟩,
  some ⟨.other, 1, .opq, 8, false⟩,
  some ⟨.other, 1, .opq, 8, false⟩,
  some ⟨.other, 1, .opq, 8, false⟩,
  some ⟨.other, 1, .opq, 8, false⟩,
  some ⟨.other, 1, .opq, 8, false⟩,
  some ⟨.other, 1, .opq, 8, false⟩,
  some ⟨.other, 1, .opq, 8, false⟩,
  some ⟨.other, 1, .opq, 8, false⟩,
  some ⟨.other, 1, .opq, 8, false⟩,
  some ⟨.ptr 154, 1, .opq, 8, false⟩,
  some ⟨.other, 1, .opq, 8, false⟩,
  some ⟨.other, 1, .opq, 8, false⟩,
  some ⟨.other, 1, .opq, 8, false⟩,
  some ⟨.other, 1, .opq, 8, false⟩,
  some ⟨.other, 1, .opq, 8, false⟩,
  some ⟨.other, 1, .opq, 8, false⟩,
  none,
  some ⟨.other, 1, .opq, 8, false⟩,
  some ⟨.other, 1, .opq, 8, false⟩,
  some ⟨.other, 1, .opq, 8, false⟩,
  some ⟨.arr 2 2, 2, .pair (.int .i64) (.int .i64), 16, true⟩,
  some ⟨.struct [(0, 2), (1, 2), (2, 2), (3, 2), (4, 2), (5, 4), (6, 131), (8, 3)], 9, .pair (.int .i64) (.pair (.int .i64) (.pair (.int .i64) (.pair (.int .i64) (.pair (.int .i64) (.pair (.bool) (.pair (.int .i64) (.pair (.int .i64) (.int .i64)))))))), 72, true⟩,
  some ⟨.struct [(0, 2), (1, 2), (2, 2), (3, 2), (4, 2), (5, 4), (6, 131), (8, 3)], 9, .pair (.int .i64) (.pair (.int .i64) (.pair (.int .i64) (.pair (.int .i64) (.pair (.int .i64) (.pair (.bool) (.pair (.int .i64) (.pair (.int .i64) (.int .i64)))))))), 72, true⟩,
  some ⟨.other, 1, .opq, 8, false⟩,
  some ⟨.other, 1, .opq, 8, false⟩,
  some ⟨.other, 1, .opq, 8, false⟩,
  some ⟨.other, 1, .opq, 8, false⟩,
  some ⟨.other, 1, .opq, 8, false⟩,
  some ⟨.other, 1, .opq, 8, false⟩,
  some ⟨.struct [(0, 2), (1, 2), (2, 2), (3, 9)], 4, .pair (.int .i64) (.pair (.int .i64) (.pair (.int .i64) (.str))), 40, true⟩,
  none,
  some ⟨.other, 1, .opq, 8, false⟩,
  some ⟨.other, 1, .opq, 8, false⟩,
  none,
  some ⟨.other, 1, .opq, 8, false⟩,
  some ⟨.other, 1, .opq, 8, false⟩,
  some ⟨.other, 1, .opq, 8, false⟩,
  some ⟨.other, 1, .opq, 8, false⟩,
  some ⟨.other, 1, .opq, 8, false⟩,
  some ⟨.other, 1, .opq, 8, false⟩,
  some ⟨.other, 1, .opq, 8, false⟩,
  some ⟨.int .u64, 1, .int .u64, 8, false⟩,
  some ⟨.struct [(0, 39), (1, 3), (2, 152), (3, 2)], 4, .pair (.slice (.int .u8)) (.pair (.int .i64) (.pair (.int .u64) (.int .i64))), 48, true⟩,
  some ⟨.struct [(0, 39), (1, 3), (2, 152), (3, 2)], 4, .pair (.slice (.int .u8)) (.pair (.int .i64) (.pair (.int .u64) (.int .i64))), 48, true⟩,
  some ⟨.other, 1, .opq, 8, false⟩,
  some ⟨.struct [(0, 2), (1, 2), (2, 43)], 3, .pair (.int .i64) (.pair (.int .i64) (.slice (.int .i64))), 40, true⟩,
  some ⟨.struct [(0, 2), (1, 2), (2, 43)], 3, .pair (.int .i64) (.pair (.int .i64) (.slice (.int .i64))), 40, true⟩,
  none,
  some ⟨.other, 1, .opq, 8, false⟩,
  some ⟨.other, 1, .opq, 8, false⟩,
  some ⟨.other, 1, .opq, 8, false⟩,
  some ⟨.struct [(0, 2), (1, 2), (2, 2)], 3, .pair (.int .i64) (.pair (.int .i64) (.int .i64)), 24, true⟩,
  some ⟨.struct [(0, 2), (1, 2), (2, 2), (3, 2), (4, 162)], 7, .pair (.int .i64) (.pair (.int .i64) (.pair (.int .i64) (.pair (.int .i64) (.pair (.int .i64) (.pair (.int .i64) (.int .i64)))))), 56, true⟩,
  some ⟨.struct [(0, 2), (1, 2), (2, 2), (3, 2), (4, 162)], 7, .pair (.int .i64) (.pair (.int .i64) (.pair (.int .i64) (.pair (.int .i64) (.pair (.int .i64) (.pair (.int .i64) (.int .i64)))))), 56, true⟩,
  some ⟨.other, 1, .opq, 8, false⟩,
  none,
  some ⟨.other, 1, .opq, 8, false⟩,
  some ⟨.other, 1, .opq, 8, false⟩,
  some ⟨.other, 1, .opq, 8, false⟩,
  some ⟨.other, 1, .opq, 8, false⟩,
  some ⟨.other, 1, .opq, 8, false⟩,
  some ⟨.other, 1, .opq, 8, false⟩,
  some ⟨.other, 1, .opq, 8, false⟩,
  some ⟨.other, 1, .opq, 8, false⟩,
  some ⟨.other, 1, .opq, 8, false⟩,
  some ⟨.other, 1, .opq, 8, false⟩,
  some ⟨.struct [(0, 2), (1, 2), (2, 2), (3, 2), (4, 4)], 5, .pair (.int .i64) (.pair (.int .i64) (.pair (.int .i64) (.pair (.int .i64) (.bool)))), 40, true⟩,
  some ⟨.slice 205, 1, .slice (.pair (.int .i64) (.pair (.int .i64) (.pair (.int .i64) (.bool)))), 24, false⟩,
  some ⟨.other, 1, .opq, 8, false⟩,
  some ⟨.struct [(0, 2), (1, 2), (2, 9), (3, 43)], 4, .pair (.int .i64) (.pair (.int .i64) (.pair (.str) (.slice (.int .i64)))), 56, true⟩,
  some ⟨.struct [(0, 2), (1, 2), (2, 9), (3, 43)], 4, .pair (.int .i64) (.pair (.int .i64) (.pair (.str) (.slice (.int .i64)))), 56, true⟩,
  some ⟨.other, 1, .opq, 8, false⟩,
  some ⟨.other, 1, .opq, 8, false⟩,
  some ⟨.struct [(0, 4), (1, 2)], 2, .pair (.bool) (.int .i64), 16, true⟩,
  some ⟨.struct [(0, 4), (1, 2)], 2, .pair (.bool) (.int .i64), 16, true⟩,
  some ⟨.other, 1, .opq, 8, false⟩,
  some ⟨.other, 1, .opq, 8, false⟩,
  some ⟨.other, 1, .opq, 8, false⟩,
  some ⟨.ptr 133, 1, .opq, 8, false⟩,
  some ⟨.other, 1, .opq, 8, false⟩,
  some ⟨.other, 1, .opq, 8, false⟩,
  some ⟨.other, 1, .opq, 8, false⟩,
  some ⟨.ptr 58, 1, .opq, 8, false⟩,
  some ⟨.other, 1, .opq, 8, false⟩,
  some ⟨.other, 1, .opq, 8, false⟩,
  some ⟨.other, 1, .opq, 8, false⟩,
  some ⟨.other, 1, .opq, 8, false⟩,
  some ⟨.ptr 86, 1, .opq, 8, false⟩,
  some ⟨.other, 1, .opq, 8, false⟩,
  some ⟨.other, 1, .opq, 8, false⟩,
  some ⟨.other, 1, .opq, 8, false⟩,
  some ⟨.other, 1, .opq, 8, false⟩,
  some ⟨.other, 1, .opq, 8, false⟩,
  some ⟨.struct [(0, 2), (1, 2), (2, 2), (3, 4)], 4, .pair (.int .i64) (.pair (.int .i64) (.pair (.int .i64) (.bool))), 32, true⟩,
  some ⟨.struct [(0, 2), (1, 2), (2, 2), (3, 4)], 4, .pair (.int .i64) (.pair (.int .i64) (.pair (.int .i64) (.bool))), 32, true⟩,
  some ⟨.other, 1, .opq, 8, false⟩,
  none,
  some ⟨.other, 1, .opq, 8, false⟩,
  some ⟨.other, 1, .opq, 8, false⟩,
  none,
  some ⟨.other, 1, .opq, 8, false⟩,
  some ⟨.other, 1, .opq, 8, false⟩,
  some ⟨.other, 1, .opq, 8, false⟩,
  some ⟨.struct [(0, 17), (1, 17), (2, 17), (3, 9)], 4, .pair (.opq) (.pair (.opq) (.pair (.opq) (.str))), 40, true⟩,
  some ⟨.struct [(0, 17), (1, 17), (2, 17), (3, 9)], 4, .pair (.opq) (.pair (.opq) (.pair (.opq) (.str))), 40, true⟩,
  none,
  none,
  none,
  some ⟨.other, 1, .opq, 8, false⟩,
  some ⟨.int .u32, 1, .int .u32, 4, false⟩,
  some ⟨.int .u8, 1, .int .u8, 1, false⟩,
  some ⟨.int .u8, 1, .int .u8, 1, false⟩,
  some ⟨.other, 1, .opq, 8, false⟩,
  some ⟨.ptr 5, 1, .opq, 8, false⟩,
  some ⟨.int .i32, 1, .int .i32, 4, false⟩,
  some ⟨.int .i32, 1, .int .i32, 4, false⟩,
  some ⟨.struct [(0, 12), (1, 12), (2, 220), (3, 221), (4, 5), (5, 5), (6, 222), (7, 223), (8, 224), (9, 225), (10, 226)], 11, .pair (.int .u64) (.pair (.int .u64) (.pair (.int .u32) (.pair (.int .u8) (.pair (.int .u8) (.pair (.int .u8) (.pair (.int .u8) (.pair (.opq) (.pair (.opq) (.pair (.int .i32) (.int .i32)))))))))), 48, true⟩,
  some ⟨.struct [(0, 12), (1, 12), (2, 220), (3, 221), (4, 5), (5, 5), (6, 222), (7, 223), (8, 224), (9, 225), (10, 226)], 11, .pair (.int .u64) (.pair (.int .u64) (.pair (.int .u32) (.pair (.int .u8) (.pair (.int .u8) (.pair (.int .u8) (.pair (.int .u8) (.pair (.opq) (.pair (.opq) (.pair (.int .i32) (.int .i32)))))))))), 48, true⟩,
  some ⟨.other, 1, .opq, 8, false⟩]
noncomputable def D : TypeId → Option TD := nthD tds
theorem tdsOk : okTds Go.Proofs.Try.prog (nthD tds) 0 tds = true := by kernel_rfl
theorem dok : Dok Go.Proofs.Try.prog D := dok_of tdsOk
theorem mixed : Go.Proofs.Try.prog.follows .mixedOrders = true := by kernel_rfl
abbrev R1 : Ty := .pair (.int .i64) (.pair (.int .i64) (.pair (.int .i64) (.pair (.int .i64) (.bool))))
/-! ### loop.example/g00038/laws.szTlbEntryS -/
noncomputable def laws_szTlbEntryS.E : Env := ⟨D, [], [], []⟩
noncomputable def laws_szTlbEntryS (a0 : List (Int × Int × Int × Int × Bool)) (a1 : Int) : Option (Int × Unit) :=
  let x1 : Int := (wrap64 (a1 - (a0.length : Int)))
  bif decide (x1 < 0) then
    some (-1, ())
  else
    some (x1, ())
noncomputable def laws_szTlbEntryS.ent : Entry := ⟨[false, false], [.cell (.val .bor (.slice (.pair (.int .i64) (.pair (.int .i64) (.pair (.int .i64) (.pair (.int .i64) (.bool))))))), .cell (.val .bor (.int .i64))], [.cell (.val .bor (.int .i64))], [], fun v => laws_szTlbEntryS v.1 v.2.1⟩
theorem laws_szTlbEntryS.eq : ∀ v, evFn laws_szTlbEntryS.E Go.Proofs.Try.f55 laws_szTlbEntryS.ent.ptrs laws_szTlbEntryS.ent.ins laws_szTlbEntryS.ent.rets laws_szTlbEntryS.ent.outs v = laws_szTlbEntryS.ent.f v := by intro v; kernel_rfl
theorem laws_szTlbEntryS.fok : ∀ q ∈ ([] : List (Nat × Entry)), EntryOK Go.Proofs.Try.prog q.1 q.2 := by intro q hq; simp at hq
theorem laws_szTlbEntryS.ls : loopsOf (bodyOf Go.Proofs.Try.f55) = [] := by kernel_rfl
theorem laws_szTlbEntryS.at_ : Go.Proofs.Try.prog.funcs[55]? = some Go.Proofs.Try.f55 := by kernel_rfl
theorem laws_szTlbEntryS.bd : Go.Proofs.Try.f55.body = some (bodyOf Go.Proofs.Try.f55) := by kernel_rfl
theorem laws_szTlbEntryS.nm : Go.Proofs.Try.f55.name ≠ "runtime.NumGoroutine" := by decide
theorem laws_szTlbEntryS.ok : EntryOK Go.Proofs.Try.prog 55 laws_szTlbEntryS.ent :=
  entry_ok (E := laws_szTlbEntryS.E) (EnvOK.of dok laws_szTlbEntryS.fok) mixed laws_szTlbEntryS.at_ laws_szTlbEntryS.bd laws_szTlbEntryS.nm laws_szTlbEntryS.ls (by intro l hl; simp at hl) laws_szTlbEntryS.eq
/-! ### loop.example/g00038/laws.szTlb -/
noncomputable def laws_szTlb.E : Env := ⟨D, [], [(55, laws_szTlbEntryS.ent)], []⟩
noncomputable def laws_szTlb (a0 : List (Int × Int × Int × Int × Bool)) (a1 : Int) (a2 : Int) : Option (Int × Unit) :=
  (laws_szTlbEntryS a0 a2).bind fun r1 =>
  bif decide (r1.1 < 0) then
    some (-1, ())
  else
    some (r1.1, ())
noncomputable def laws_szTlb.ent : Entry := ⟨[false, false], [.agg [.val .bor (.slice (.pair (.int .i64) (.pair (.int .i64) (.pair (.int .i64) (.pair (.int .i64) (.bool)))))), .val .bor (.int .i64)], .cell (.val .bor (.int .i64))], [.cell (.val .bor (.int .i64))], [], fun v => laws_szTlb v.1 v.2.1 v.2.2.1⟩
theorem laws_szTlb.eq : ∀ v, evFn laws_szTlb.E Go.Proofs.Try.f10 laws_szTlb.ent.ptrs laws_szTlb.ent.ins laws_szTlb.ent.rets laws_szTlb.ent.outs v = laws_szTlb.ent.f v := by intro v; kernel_rfl
theorem laws_szTlb.fok : ∀ q ∈ [((55 : Nat), laws_szTlbEntryS.ent)], EntryOK Go.Proofs.Try.prog q.1 q.2 := by
  intro q hq
  simp only [List.mem_cons, List.mem_nil_iff, or_false] at hq
  rcases hq with rfl
  · exact laws_szTlbEntryS.ok
theorem laws_szTlb.ls : loopsOf (bodyOf Go.Proofs.Try.f10) = [] := by kernel_rfl
theorem laws_szTlb.at_ : Go.Proofs.Try.prog.funcs[10]? = some Go.Proofs.Try.f10 := by kernel_rfl
theorem laws_szTlb.bd : Go.Proofs.Try.f10.body = some (bodyOf Go.Proofs.Try.f10) := by kernel_rfl
theorem laws_szTlb.nm : Go.Proofs.Try.f10.name ≠ "runtime.NumGoroutine" := by decide
theorem laws_szTlb.ok : EntryOK Go.Proofs.Try.prog 10 laws_szTlb.ent :=
  entry_ok (E := laws_szTlb.E) (EnvOK.of dok laws_szTlb.fok) mixed laws_szTlb.at_ laws_szTlb.bd laws_szTlb.nm laws_szTlb.ls (by intro l hl; simp at hl) laws_szTlb.eq
/-! ### loop.example/g00038/laws.toTlbEntry -/
noncomputable def laws_toTlbEntry.E : Env := ⟨D, [], [], []⟩
noncomputable def laws_toTlbEntry (a0 : Int) (a1 : Int) (a2 : Int) (a3 : Int) (a4 : Bool) : Option (Int × Int × Int × Int × Bool × Unit) :=
  some (a0, a1, a2, a3, a4, ())
noncomputable def laws_toTlbEntry.ent : Entry := ⟨[false], [.agg [.val .bor (.int .i64), .val .bor (.int .i64), .val .bor (.int .i64), .val .bor (.int .i64), .val .bor (.bool)]], [.agg [.val .bor (.int .i64), .val .bor (.int .i64), .val .bor (.int .i64), .val .bor (.int .i64), .val .bor (.bool)]], [], fun v => laws_toTlbEntry v.1 v.2.1 v.2.2.1 v.2.2.2.1 v.2.2.2.2.1⟩
theorem laws_toTlbEntry.eq : ∀ v, evFn laws_toTlbEntry.E Go.Proofs.Try.f120 laws_toTlbEntry.ent.ptrs laws_toTlbEntry.ent.ins laws_toTlbEntry.ent.rets laws_toTlbEntry.ent.outs v = laws_toTlbEntry.ent.f v := by intro v; kernel_rfl
theorem laws_toTlbEntry.fok : ∀ q ∈ ([] : List (Nat × Entry)), EntryOK Go.Proofs.Try.prog q.1 q.2 := by intro q hq; simp at hq
theorem laws_toTlbEntry.ls : loopsOf (bodyOf Go.Proofs.Try.f120) = [] := by kernel_rfl
theorem laws_toTlbEntry.at_ : Go.Proofs.Try.prog.funcs[120]? = some Go.Proofs.Try.f120 := by kernel_rfl
theorem laws_toTlbEntry.bd : Go.Proofs.Try.f120.body = some (bodyOf Go.Proofs.Try.f120) := by kernel_rfl
theorem laws_toTlbEntry.nm : Go.Proofs.Try.f120.name ≠ "runtime.NumGoroutine" := by decide
theorem laws_toTlbEntry.ok : EntryOK Go.Proofs.Try.prog 120 laws_toTlbEntry.ent :=
  entry_ok (E := laws_toTlbEntry.E) (EnvOK.of dok laws_toTlbEntry.fok) mixed laws_toTlbEntry.at_ laws_toTlbEntry.bd laws_toTlbEntry.nm laws_toTlbEntry.ls (by intro l hl; simp at hl) laws_toTlbEntry.eq
/-! ### loop.example/g00038/laws.toTlbEntryS -/
noncomputable def laws_toTlbEntryS.E3 : Env := ⟨D, [], [(120, laws_toTlbEntry.ent)], []⟩
noncomputable def laws_toTlbEntryS_l3_step (rec : (List (Int × Int × Int × Int × Bool)) → Int → (List (Int × Int × Int × Int × Bool)) → Option ((List (Int × Int × Int × Int × Bool) × Unit))) (y0 : List (Int × Int × Int × Int × Bool)) (y1 : Int) (y2 : List (Int × Int × Int × Int × Bool)) : Option ((List (Int × Int × Int × Int × Bool) × Unit)) :=
  let b2 : Bool := decide (y1 < (y0.length : Int))
  bif b2 then
    let e3 : Int × Int × Int × Int × Bool := rd R1 y0 y1
    (laws_toTlbEntry e3.1 e3.2.1 e3.2.2.1 e3.2.2.2.1 e3.2.2.2.2).bind fun r4 =>
    let l6 : List (Int × Int × Int × Int × Bool) := y2.set y1.toNat (r4.1, r4.2.1, r4.2.2.1, r4.2.2.2.1, r4.2.2.2.2.1)
    bif (decide (0 ≤ y1) && decide (y1 < (y0.length : Int))) && (decide (0 ≤ y1) && decide (y1 < (y2.length : Int))) then
      rec y0 (wrap64 (y1 + 1)) l6
    else none
  else
    some (y2, ())
noncomputable def laws_toTlbEntryS_l3 : Nat → (List (Int × Int × Int × Int × Bool)) → Int → (List (Int × Int × Int × Int × Bool)) → Option ((List (Int × Int × Int × Int × Bool) × Unit))
  | 0 => fun _ _ _ => none
  | n + 1 => laws_toTlbEntryS_l3_step (laws_toTlbEntryS_l3 n)
noncomputable def laws_toTlbEntryS_l3.ent : LEntry := ⟨(.cell (.val .bor (.slice (.pair (.int .i64) (.pair (.int .i64) (.pair (.int .i64) (.pair (.int .i64) (.bool))))))) :: (sk 2 (.cell (.fix (.view 7 0)) :: (.cell (.val .bor (.int .i64)) :: (sk 18 []))))), rk 7 ([.val .own (.slice (.pair (.int .i64) (.pair (.int .i64) (.pair (.int .i64) (.pair (.int .i64) (.bool))))))] :: (rk 15 [])), [], [], [⟨some 0, sk 3 (.cell (.fix (.view 7 0)) :: (sk 19 [])), rk 7 ([.val .own (.slice (.pair (.int .i64) (.pair (.int .i64) (.pair (.int .i64) (.pair (.int .i64) (.bool))))))] :: (rk 15 [])), [], []⟩], fun v => laws_toTlbEntryS_l3 K0 v.1 v.2.1 v.2.2.1⟩
theorem laws_toTlbEntryS_l3.eq : ∀ rec v, evStep laws_toTlbEntryS.E3 (bodyAt 3 Go.Proofs.Try.f59) laws_toTlbEntryS_l3.ent.ins laws_toTlbEntryS_l3.ent.rts laws_toTlbEntryS_l3.ent.hm laws_toTlbEntryS_l3.ent.nl laws_toTlbEntryS_l3.ent.xs rec v = laws_toTlbEntryS_l3_step (fun c0 c1 c2 => rec (c0, c1, c2, ())) v.1 v.2.1 v.2.2.1 := by intro rec v; kernel_rfl
noncomputable def laws_toTlbEntryS.E : Env := ⟨D, [], [(120, laws_toTlbEntry.ent)], [(3, laws_toTlbEntryS_l3.ent)]⟩
noncomputable def laws_toTlbEntryS (a0 : List (Int × Int × Int × Int × Bool)) : Option (List (Int × Int × Int × Int × Bool) × Unit) :=
  let l1 : List (Int × Int × Int × Int × Bool) := List.replicate ((a0.length : Int).toNat) (Ty.dflt R1)
  bif decide (0 ≤ (a0.length : Int)) && decide ((a0.length : Int) ≤ (a0.length : Int)) && roomy (a0.length : Int) 40 then
    (laws_toTlbEntryS_l3 K0 a0 0 l1).bind fun o7 =>
    some (o7.1, ())
  else none
noncomputable def laws_toTlbEntryS.ent : Entry := ⟨[false], [.cell (.val .bor (.slice (.pair (.int .i64) (.pair (.int .i64) (.pair (.int .i64) (.pair (.int .i64) (.bool)))))))], [.cell (.val .own (.slice (.pair (.int .i64) (.pair (.int .i64) (.pair (.int .i64) (.pair (.int .i64) (.bool)))))))], [], fun v => laws_toTlbEntryS v.1⟩
theorem laws_toTlbEntryS.eq : ∀ v, evFn laws_toTlbEntryS.E Go.Proofs.Try.f59 laws_toTlbEntryS.ent.ptrs laws_toTlbEntryS.ent.ins laws_toTlbEntryS.ent.rets laws_toTlbEntryS.ent.outs v = laws_toTlbEntryS.ent.f v := by intro v; kernel_rfl
theorem laws_toTlbEntryS.fok : ∀ q ∈ [((120 : Nat), laws_toTlbEntry.ent)], EntryOK Go.Proofs.Try.prog q.1 q.2 := by
  intro q hq
  simp only [List.mem_cons, List.mem_nil_iff, or_false] at hq
  rcases hq with rfl
  · exact laws_toTlbEntry.ok
theorem laws_toTlbEntryS_l3.it : ∀ n v, iter (evStep laws_toTlbEntryS.E3 (bodyAt 3 Go.Proofs.Try.f59) laws_toTlbEntryS_l3.ent.ins laws_toTlbEntryS_l3.ent.rts laws_toTlbEntryS_l3.ent.hm laws_toTlbEntryS_l3.ent.nl laws_toTlbEntryS_l3.ent.xs) n v = laws_toTlbEntryS_l3 n v.1 v.2.1 v.2.2.1 := by
  intro n
  induction n with
  | zero => intro v; rfl
  | succ n ih =>
    intro v
    show (evStep laws_toTlbEntryS.E3 (bodyAt 3 Go.Proofs.Try.f59) laws_toTlbEntryS_l3.ent.ins laws_toTlbEntryS_l3.ent.rts laws_toTlbEntryS_l3.ent.hm laws_toTlbEntryS_l3.ent.nl laws_toTlbEntryS_l3.ent.xs) (iter (evStep laws_toTlbEntryS.E3 (bodyAt 3 Go.Proofs.Try.f59) laws_toTlbEntryS_l3.ent.ins laws_toTlbEntryS_l3.ent.rts laws_toTlbEntryS_l3.ent.hm laws_toTlbEntryS_l3.ent.nl laws_toTlbEntryS_l3.ent.xs) n) v = _
    rw [laws_toTlbEntryS_l3.eq, show (fun c0 c1 c2 => iter (evStep laws_toTlbEntryS.E3 (bodyAt 3 Go.Proofs.Try.f59) laws_toTlbEntryS_l3.ent.ins laws_toTlbEntryS_l3.ent.rts laws_toTlbEntryS_l3.ent.hm laws_toTlbEntryS_l3.ent.nl laws_toTlbEntryS_l3.ent.xs) n (c0, c1, c2, ())) = laws_toTlbEntryS_l3 n from by funext c0 c1 c2; exact ih _]
    rfl
theorem laws_toTlbEntryS_l3.fr : firstRegion (bodyAt 3 Go.Proofs.Try.f59) = 3 := by kernel_rfl
theorem laws_toTlbEntryS_l3.ls : loopsOf (bodyAt 3 Go.Proofs.Try.f59) = [] := by kernel_rfl
theorem laws_toTlbEntryS_l3.lok {E : Env} (hpin : laws_toTlbEntryS.E3.pin = E.pin) (hfind : find 3 E.loops = some laws_toTlbEntryS_l3.ent) : LoopOK Go.Proofs.Try.prog E (bodyAt 3 Go.Proofs.Try.f59) :=
  loop_of (E1 := laws_toTlbEntryS.E3) (EnvOK.of dok laws_toTlbEntryS.fok) mixed hpin (by rw [laws_toTlbEntryS_l3.fr]; exact hfind) laws_toTlbEntryS_l3.ls (by intro l hl; simp at hl) (fun v => (laws_toTlbEntryS_l3.it K0 v).symm)
theorem laws_toTlbEntryS.ls : loopsOf (bodyOf Go.Proofs.Try.f59) = [bodyAt 3 Go.Proofs.Try.f59] := by kernel_rfl
theorem laws_toTlbEntryS.at_ : Go.Proofs.Try.prog.funcs[59]? = some Go.Proofs.Try.f59 := by kernel_rfl
theorem laws_toTlbEntryS.bd : Go.Proofs.Try.f59.body = some (bodyOf Go.Proofs.Try.f59) := by kernel_rfl
theorem laws_toTlbEntryS.nm : Go.Proofs.Try.f59.name ≠ "runtime.NumGoroutine" := by decide
theorem laws_toTlbEntryS.ok : EntryOK Go.Proofs.Try.prog 59 laws_toTlbEntryS.ent :=
  entry_ok (E := laws_toTlbEntryS.E) (EnvOK.of dok laws_toTlbEntryS.fok) mixed laws_toTlbEntryS.at_ laws_toTlbEntryS.bd laws_toTlbEntryS.nm laws_toTlbEntryS.ls (by intro l hl; simp only [List.mem_singleton] at hl; subst hl; exact laws_toTlbEntryS_l3.lok rfl rfl) laws_toTlbEntryS.eq
/-! ### loop.example/g00038/laws.toTlb -/
noncomputable def laws_toTlb.E : Env := ⟨D, [], [(59, laws_toTlbEntryS.ent)], []⟩
noncomputable def laws_toTlb (a0 : List (Int × Int × Int × Int × Bool)) (a1 : Int) : Option (List (Int × Int × Int × Int × Bool) × Int × Unit) :=
  (laws_toTlbEntryS a0).bind fun r1 =>
  some (r1.1, a1, ())
noncomputable def laws_toTlb.ent : Entry := ⟨[false], [.agg [.val .bor (.slice (.pair (.int .i64) (.pair (.int .i64) (.pair (.int .i64) (.pair (.int .i64) (.bool)))))), .val .bor (.int .i64)]], [.agg [.val .own (.slice (.pair (.int .i64) (.pair (.int .i64) (.pair (.int .i64) (.pair (.int .i64) (.bool)))))), .val .bor (.int .i64)]], [], fun v => laws_toTlb v.1 v.2.1⟩
theorem laws_toTlb.eq : ∀ v, evFn laws_toTlb.E Go.Proofs.Try.f12 laws_toTlb.ent.ptrs laws_toTlb.ent.ins laws_toTlb.ent.rets laws_toTlb.ent.outs v = laws_toTlb.ent.f v := by intro v; kernel_rfl
theorem laws_toTlb.fok : ∀ q ∈ [((59 : Nat), laws_toTlbEntryS.ent)], EntryOK Go.Proofs.Try.prog q.1 q.2 := by
  intro q hq
  simp only [List.mem_cons, List.mem_nil_iff, or_false] at hq
  rcases hq with rfl
  · exact laws_toTlbEntryS.ok
theorem laws_toTlb.ls : loopsOf (bodyOf Go.Proofs.Try.f12) = [] := by kernel_rfl
theorem laws_toTlb.at_ : Go.Proofs.Try.prog.funcs[12]? = some Go.Proofs.Try.f12 := by kernel_rfl
theorem laws_toTlb.bd : Go.Proofs.Try.f12.body = some (bodyOf Go.Proofs.Try.f12) := by kernel_rfl
theorem laws_toTlb.nm : Go.Proofs.Try.f12.name ≠ "runtime.NumGoroutine" := by decide
theorem laws_toTlb.ok : EntryOK Go.Proofs.Try.prog 12 laws_toTlb.ent :=
  entry_ok (E := laws_toTlb.E) (EnvOK.of dok laws_toTlb.fok) mixed laws_toTlb.at_ laws_toTlb.bd laws_toTlb.nm laws_toTlb.ls (by intro l hl; simp at hl) laws_toTlb.eq
/-! ### loop.example/g00038/spec.l03TlbEntry -/
noncomputable def spec_l03TlbEntry.E : Env := ⟨D, [], [], []⟩
noncomputable def spec_l03TlbEntry (a0 : Int) (a1 : Int) (a2 : Int) (a3 : Int) (a4 : Bool) : Option (Bool × Unit) :=
  let b1 : Bool := (decide (a0 < 0) || decide (a0 > 255))
  let b2 : Bool := ((b1 || decide (a1 < 0)) || decide (a1 > 1023))
  let b3 : Bool := ((b2 || decide (a2 < 0)) || decide (a2 > 1023))
  let b4 : Bool := ((b3 || decide (a3 < 0)) || decide (a3 > 255))
  bif b4 then
    some (false, ())
  else
    let b5 : Bool := (((Int.tmod a1 32) == 0) && ((Int.tmod a2 32) == 0))
    bif (!(!(!a4)) || (!((32 : Int) == 0))) && (!(!(!a4)) || (!((Int.tmod a1 32) == 0) || (!((32 : Int) == 0)))) then
      some ((!a4 || b5), ())
    else none
noncomputable def spec_l03TlbEntry.ent : Entry := ⟨[false], [.agg [.val .bor (.int .i64), .val .bor (.int .i64), .val .bor (.int .i64), .val .bor (.int .i64), .val .bor (.bool)]], [.cell (.val .bor (.bool))], [], fun v => spec_l03TlbEntry v.1 v.2.1 v.2.2.1 v.2.2.2.1 v.2.2.2.2.1⟩
theorem spec_l03TlbEntry.eq : ∀ v, evFn spec_l03TlbEntry.E Go.Proofs.Try.f89 spec_l03TlbEntry.ent.ptrs spec_l03TlbEntry.ent.ins spec_l03TlbEntry.ent.rets spec_l03TlbEntry.ent.outs v = spec_l03TlbEntry.ent.f v := by intro v; kernel_rfl
theorem spec_l03TlbEntry.fok : ∀ q ∈ ([] : List (Nat × Entry)), EntryOK Go.Proofs.Try.prog q.1 q.2 := by intro q hq; simp at hq
theorem spec_l03TlbEntry.ls : loopsOf (bodyOf Go.Proofs.Try.f89) = [] := by kernel_rfl
theorem spec_l03TlbEntry.at_ : Go.Proofs.Try.prog.funcs[89]? = some Go.Proofs.Try.f89 := by kernel_rfl
theorem spec_l03TlbEntry.bd : Go.Proofs.Try.f89.body = some (bodyOf Go.Proofs.Try.f89) := by kernel_rfl
theorem spec_l03TlbEntry.nm : Go.Proofs.Try.f89.name ≠ "runtime.NumGoroutine" := by decide
theorem spec_l03TlbEntry.ok : EntryOK Go.Proofs.Try.prog 89 spec_l03TlbEntry.ent :=
  entry_ok (E := spec_l03TlbEntry.E) (EnvOK.of dok spec_l03TlbEntry.fok) mixed spec_l03TlbEntry.at_ spec_l03TlbEntry.bd spec_l03TlbEntry.nm spec_l03TlbEntry.ls (by intro l hl; simp at hl) spec_l03TlbEntry.eq
/-! ### loop.example/g00038/spec.TlbFault -/
noncomputable def spec_TlbFault.E10 : Env := ⟨D, [], [(89, spec_l03TlbEntry.ent)], []⟩
noncomputable def spec_TlbFault_l10_step (rec : Int → Int → (List (Int × Int × Int × Int × Bool)) → Int → Int → Int → Int → Int → Bool → Option ((Int × Unit) ⊕ (Int × List (Int × Int × Int × Int × Bool) × Int × Unit))) (y0 : Int) (y1 : Int) (y2 : List (Int × Int × Int × Int × Bool)) (y3 : Int) (y4 : Int) (y5 : Int) (y6 : Int) (y7 : Int) (y8 : Bool) : Option ((Int × Unit) ⊕ (Int × List (Int × Int × Int × Int × Bool) × Int × Unit)) :=
  bif decide (y1 < y0) then
    let e6 : Int × Int × Int × Int × Bool := rd R1 y2 y1
    let b7 : Bool := ((e6.1 == y4) && (e6.2.1 == y5))
    let b8 : Bool := (b7 && (e6.2.2.2.2 == y8))
    bif (decide (0 ≤ y1) && decide (y1 < (y2.length : Int))) && ((!(e6.1 == y4) || (decide (0 ≤ y1) && decide (y1 < (y2.length : Int)))) && (!b7 || (decide (0 ≤ y1) && decide (y1 < (y2.length : Int))))) then
      bif b8 then
        some (Sum.inl (1, ()))
      else
        rec y0 (wrap64 (y1 + 1)) y2 y3 y4 y5 y6 y7 y8
    else none
  else
    some (Sum.inr (y0, y2, y3, ()))
noncomputable def spec_TlbFault_l10 : Nat → Int → Int → (List (Int × Int × Int × Int × Bool)) → Int → Int → Int → Int → Int → Bool → Option ((Int × Unit) ⊕ (Int × List (Int × Int × Int × Int × Bool) × Int × Unit))
  | 0 => fun _ _ _ _ _ _ _ _ _ => none
  | n + 1 => spec_TlbFault_l10_step (spec_TlbFault_l10 n)
noncomputable def spec_TlbFault_l10.ent : LEntry := ⟨sk 1 (.cell (.fix (.ptr 1 0)) :: (sk 1 (.cell (.val .bor (.int .i64)) :: (.cell (.fix (.ptr 4 0)) :: (.cell (.val .bor (.int .i64)) :: (sk 65 [])))))), rk 1 ([.val .bor (.slice (.pair (.int .i64) (.pair (.int .i64) (.pair (.int .i64) (.pair (.int .i64) (.bool)))))), .val .bor (.int .i64)] :: (rk 2 ([.val .bor (.int .i64), .val .bor (.int .i64), .val .bor (.int .i64), .val .bor (.int .i64), .val .bor (.bool)] :: (rk 66 [])))), [], [], [⟨none, sk 2 (.cell (.val .bor (.int .i64)) :: (sk 68 [])), rk 71 [], [], []⟩, ⟨some 2, sk 1 (.cell (.fix (.ptr 1 0)) :: (sk 1 (.cell (.val .bor (.int .i64)) :: (sk 67 [])))), rk 1 ([.val .bor (.slice (.pair (.int .i64) (.pair (.int .i64) (.pair (.int .i64) (.pair (.int .i64) (.bool)))))), .val .bor (.int .i64)] :: (rk 69 [])), [], []⟩], fun v => spec_TlbFault_l10 K0 v.1 v.2.1 v.2.2.1 v.2.2.2.1 v.2.2.2.2.1 v.2.2.2.2.2.1 v.2.2.2.2.2.2.1 v.2.2.2.2.2.2.2.1 v.2.2.2.2.2.2.2.2.1⟩
theorem spec_TlbFault_l10.eq : ∀ rec v, evStep spec_TlbFault.E10 (bodyAt 10 Go.Proofs.Try.f25) spec_TlbFault_l10.ent.ins spec_TlbFault_l10.ent.rts spec_TlbFault_l10.ent.hm spec_TlbFault_l10.ent.nl spec_TlbFault_l10.ent.xs rec v = spec_TlbFault_l10_step (fun c0 c1 c2 c3 c4 c5 c6 c7 c8 => rec (c0, c1, c2, c3, c4, c5, c6, c7, c8, ())) v.1 v.2.1 v.2.2.1 v.2.2.2.1 v.2.2.2.2.1 v.2.2.2.2.2.1 v.2.2.2.2.2.2.1 v.2.2.2.2.2.2.2.1 v.2.2.2.2.2.2.2.2.1 := by intro rec v; kernel_rfl
noncomputable def spec_TlbFault.E4 : Env := ⟨D, [], [(89, spec_l03TlbEntry.ent)], [(10, spec_TlbFault_l10.ent)]⟩
noncomputable def spec_TlbFault_l4_step (rec : Int → (List (Int × Int × Int × Int × Bool)) → Int → Option ((Int × Unit) ⊕ (Unit))) (y0 : Int) (y1 : List (Int × Int × Int × Int × Bool)) (y2 : Int) : Option ((Int × Unit) ⊕ (Unit)) :=
  let b3 : Bool := decide (y0 < (y1.length : Int))
  bif b3 then
    let e4 : Int × Int × Int × Int × Bool := rd R1 y1 y0
    bif decide (0 ≤ y0) && decide (y0 < (y1.length : Int)) then
      (spec_l03TlbEntry e4.1 e4.2.1 e4.2.2.1 e4.2.2.2.1 e4.2.2.2.2).bind fun r5 =>
      bif !r5.1 then
        some (Sum.inl (1, ()))
      else
        (spec_TlbFault_l10 K0 y0 0 y1 y2 e4.1 e4.2.1 e4.2.2.1 e4.2.2.2.1 e4.2.2.2.2).bind fun o9 =>
        match o9 with
        | Sum.inl p10 =>
          some (Sum.inl (p10.1, ()))
        | Sum.inr p11 =>
          rec (wrap64 (p11.1 + 1)) p11.2.1 p11.2.2.1
    else none
  else
    some (Sum.inr ())
noncomputable def spec_TlbFault_l4 : Nat → Int → (List (Int × Int × Int × Int × Bool)) → Int → Option ((Int × Unit) ⊕ (Unit))
  | 0 => fun _ _ _ => none
  | n + 1 => spec_TlbFault_l4_step (spec_TlbFault_l4 n)
noncomputable def spec_TlbFault_l4.ent : LEntry := ⟨sk 1 (.cell (.fix (.ptr 1 0)) :: (sk 1 (.cell (.val .bor (.int .i64)) :: (sk 67 [])))), rk 1 ([.val .bor (.slice (.pair (.int .i64) (.pair (.int .i64) (.pair (.int .i64) (.pair (.int .i64) (.bool)))))), .val .bor (.int .i64)] :: (rk 69 [])), [], [], [⟨none, sk 2 (.cell (.val .bor (.int .i64)) :: (sk 68 [])), rk 71 [], [], []⟩, ⟨some 0, sk 71 [], rk 71 [], [], []⟩], fun v => spec_TlbFault_l4 K0 v.1 v.2.1 v.2.2.1⟩
theorem spec_TlbFault_l4.eq : ∀ rec v, evStep spec_TlbFault.E4 (bodyAt 4 Go.Proofs.Try.f25) spec_TlbFault_l4.ent.ins spec_TlbFault_l4.ent.rts spec_TlbFault_l4.ent.hm spec_TlbFault_l4.ent.nl spec_TlbFault_l4.ent.xs rec v = spec_TlbFault_l4_step (fun c0 c1 c2 => rec (c0, c1, c2, ())) v.1 v.2.1 v.2.2.1 := by intro rec v; kernel_rfl
noncomputable def spec_TlbFault.E : Env := ⟨D, [], [(89, spec_l03TlbEntry.ent)], [(10, spec_TlbFault_l10.ent), (4, spec_TlbFault_l4.ent)]⟩
noncomputable def spec_TlbFault (a0 : List (Int × Int × Int × Int × Bool)) (a1 : Int) : Option (Int × Unit) :=
  let b1 : Bool := decide ((a0.length : Int) > 16)
  let b2 : Bool := ((b1 || decide (a1 < 0)) || decide (a1 ≥ 16))
  bif b2 then
    some (1, ())
  else
    (spec_TlbFault_l4 K0 0 a0 a1).bind fun o12 =>
    match o12 with
    | Sum.inl p13 =>
      some (p13.1, ())
    | Sum.inr p14 =>
      some (0, ())
noncomputable def spec_TlbFault.ent : Entry := ⟨[false], [.agg [.val .bor (.slice (.pair (.int .i64) (.pair (.int .i64) (.pair (.int .i64) (.pair (.int .i64) (.bool)))))), .val .bor (.int .i64)]], [.cell (.val .bor (.int .i64))], [], fun v => spec_TlbFault v.1 v.2.1⟩
theorem spec_TlbFault.eq : ∀ v, evFn spec_TlbFault.E Go.Proofs.Try.f25 spec_TlbFault.ent.ptrs spec_TlbFault.ent.ins spec_TlbFault.ent.rets spec_TlbFault.ent.outs v = spec_TlbFault.ent.f v := by intro v; kernel_rfl
theorem spec_TlbFault.fok : ∀ q ∈ [((89 : Nat), spec_l03TlbEntry.ent)], EntryOK Go.Proofs.Try.prog q.1 q.2 := by
  intro q hq
  simp only [List.mem_cons, List.mem_nil_iff, or_false] at hq
  rcases hq with rfl
  · exact spec_l03TlbEntry.ok
theorem spec_TlbFault_l10.it : ∀ n v, iter (evStep spec_TlbFault.E10 (bodyAt 10 Go.Proofs.Try.f25) spec_TlbFault_l10.ent.ins spec_TlbFault_l10.ent.rts spec_TlbFault_l10.ent.hm spec_TlbFault_l10.ent.nl spec_TlbFault_l10.ent.xs) n v = spec_TlbFault_l10 n v.1 v.2.1 v.2.2.1 v.2.2.2.1 v.2.2.2.2.1 v.2.2.2.2.2.1 v.2.2.2.2.2.2.1 v.2.2.2.2.2.2.2.1 v.2.2.2.2.2.2.2.2.1 := by
  intro n
  induction n with
  | zero => intro v; rfl
  | succ n ih =>
    intro v
    show (evStep spec_TlbFault.E10 (bodyAt 10 Go.Proofs.Try.f25) spec_TlbFault_l10.ent.ins spec_TlbFault_l10.ent.rts spec_TlbFault_l10.ent.hm spec_TlbFault_l10.ent.nl spec_TlbFault_l10.ent.xs) (iter (evStep spec_TlbFault.E10 (bodyAt 10 Go.Proofs.Try.f25) spec_TlbFault_l10.ent.ins spec_TlbFault_l10.ent.rts spec_TlbFault_l10.ent.hm spec_TlbFault_l10.ent.nl spec_TlbFault_l10.ent.xs) n) v = _
    rw [spec_TlbFault_l10.eq, show (fun c0 c1 c2 c3 c4 c5 c6 c7 c8 => iter (evStep spec_TlbFault.E10 (bodyAt 10 Go.Proofs.Try.f25) spec_TlbFault_l10.ent.ins spec_TlbFault_l10.ent.rts spec_TlbFault_l10.ent.hm spec_TlbFault_l10.ent.nl spec_TlbFault_l10.ent.xs) n (c0, c1, c2, c3, c4, c5, c6, c7, c8, ())) = spec_TlbFault_l10 n from by funext c0 c1 c2 c3 c4 c5 c6 c7 c8; exact ih _]
    rfl
theorem spec_TlbFault_l10.fr : firstRegion (bodyAt 10 Go.Proofs.Try.f25) = 10 := by kernel_rfl
theorem spec_TlbFault_l10.ls : loopsOf (bodyAt 10 Go.Proofs.Try.f25) = [] := by kernel_rfl
theorem spec_TlbFault_l10.lok {E : Env} (hpin : spec_TlbFault.E10.pin = E.pin) (hfind : find 10 E.loops = some spec_TlbFault_l10.ent) : LoopOK Go.Proofs.Try.prog E (bodyAt 10 Go.Proofs.Try.f25) :=
  loop_of (E1 := spec_TlbFault.E10) (EnvOK.of dok spec_TlbFault.fok) mixed hpin (by rw [spec_TlbFault_l10.fr]; exact hfind) spec_TlbFault_l10.ls (by intro l hl; simp at hl) (fun v => (spec_TlbFault_l10.it K0 v).symm)
theorem spec_TlbFault_l4.it : ∀ n v, iter (evStep spec_TlbFault.E4 (bodyAt 4 Go.Proofs.Try.f25) spec_TlbFault_l4.ent.ins spec_TlbFault_l4.ent.rts spec_TlbFault_l4.ent.hm spec_TlbFault_l4.ent.nl spec_TlbFault_l4.ent.xs) n v = spec_TlbFault_l4 n v.1 v.2.1 v.2.2.1 := by
  intro n
  induction n with
  | zero => intro v; rfl
  | succ n ih =>
    intro v
    show (evStep spec_TlbFault.E4 (bodyAt 4 Go.Proofs.Try.f25) spec_TlbFault_l4.ent.ins spec_TlbFault_l4.ent.rts spec_TlbFault_l4.ent.hm spec_TlbFault_l4.ent.nl spec_TlbFault_l4.ent.xs) (iter (evStep spec_TlbFault.E4 (bodyAt 4 Go.Proofs.Try.f25) spec_TlbFault_l4.ent.ins spec_TlbFault_l4.ent.rts spec_TlbFault_l4.ent.hm spec_TlbFault_l4.ent.nl spec_TlbFault_l4.ent.xs) n) v = _
    rw [spec_TlbFault_l4.eq, show (fun c0 c1 c2 => iter (evStep spec_TlbFault.E4 (bodyAt 4 Go.Proofs.Try.f25) spec_TlbFault_l4.ent.ins spec_TlbFault_l4.ent.rts spec_TlbFault_l4.ent.hm spec_TlbFault_l4.ent.nl spec_TlbFault_l4.ent.xs) n (c0, c1, c2, ())) = spec_TlbFault_l4 n from by funext c0 c1 c2; exact ih _]
    rfl
theorem spec_TlbFault_l4.fr : firstRegion (bodyAt 4 Go.Proofs.Try.f25) = 4 := by kernel_rfl
theorem spec_TlbFault_l4.ls : loopsOf (bodyAt 4 Go.Proofs.Try.f25) = [bodyAt 10 Go.Proofs.Try.f25] := by kernel_rfl
theorem spec_TlbFault_l4.lok {E : Env} (hpin : spec_TlbFault.E4.pin = E.pin) (hfind : find 4 E.loops = some spec_TlbFault_l4.ent) : LoopOK Go.Proofs.Try.prog E (bodyAt 4 Go.Proofs.Try.f25) :=
  loop_of (E1 := spec_TlbFault.E4) (EnvOK.of dok spec_TlbFault.fok) mixed hpin (by rw [spec_TlbFault_l4.fr]; exact hfind) spec_TlbFault_l4.ls (by intro l hl; simp only [List.mem_singleton] at hl; subst hl; exact spec_TlbFault_l10.lok rfl rfl) (fun v => (spec_TlbFault_l4.it K0 v).symm)
theorem spec_TlbFault.ls : loopsOf (bodyOf Go.Proofs.Try.f25) = [bodyAt 4 Go.Proofs.Try.f25, bodyAt 10 Go.Proofs.Try.f25] := by kernel_rfl
theorem spec_TlbFault.at_ : Go.Proofs.Try.prog.funcs[25]? = some Go.Proofs.Try.f25 := by kernel_rfl
theorem spec_TlbFault.bd : Go.Proofs.Try.f25.body = some (bodyOf Go.Proofs.Try.f25) := by kernel_rfl
theorem spec_TlbFault.nm : Go.Proofs.Try.f25.name ≠ "runtime.NumGoroutine" := by decide
theorem spec_TlbFault.ok : EntryOK Go.Proofs.Try.prog 25 spec_TlbFault.ent :=
  entry_ok (E := spec_TlbFault.E) (EnvOK.of dok spec_TlbFault.fok) mixed spec_TlbFault.at_ spec_TlbFault.bd spec_TlbFault.nm spec_TlbFault.ls (by
    intro l hl
    simp only [List.mem_cons, List.mem_nil_iff, or_false] at hl
    rcases hl with rfl | rfl
    · exact spec_TlbFault_l4.lok rfl rfl
    · exact spec_TlbFault_l10.lok rfl rfl) spec_TlbFault.eq
/-! ### loop.example/g00038/spec.l03Holds -/
noncomputable def spec_l03Holds.E : Env := ⟨D, [], [], []⟩
noncomputable def spec_l03Holds (a0 : Int) (a1 : Int) (a2 : Int) (a3 : Int) (a4 : Bool) (a5 : Int) : Option (Bool × Unit) :=
  bif a4 then
    let b1 : Bool := (shr .i64 a1 5 == shr .i64 a5 13)
    bif (decide (0 ≤ (5 : Int))) && (decide (0 ≤ (13 : Int))) then
      some (b1, ())
    else none
  else
    bif decide (0 ≤ (8 : Int)) then
      some ((a1 == shr .i64 a5 8), ())
    else none
noncomputable def spec_l03Holds.ent : Entry := ⟨[false, false], [.agg [.val .bor (.int .i64), .val .bor (.int .i64), .val .bor (.int .i64), .val .bor (.int .i64), .val .bor (.bool)], .cell (.val .bor (.int .i64))], [.cell (.val .bor (.bool))], [], fun v => spec_l03Holds v.1 v.2.1 v.2.2.1 v.2.2.2.1 v.2.2.2.2.1 v.2.2.2.2.2.1⟩
theorem spec_l03Holds.eq : ∀ v, evFn spec_l03Holds.E Go.Proofs.Try.f57 spec_l03Holds.ent.ptrs spec_l03Holds.ent.ins spec_l03Holds.ent.rets spec_l03Holds.ent.outs v = spec_l03Holds.ent.f v := by intro v; kernel_rfl
theorem spec_l03Holds.fok : ∀ q ∈ ([] : List (Nat × Entry)), EntryOK Go.Proofs.Try.prog q.1 q.2 := by intro q hq; simp at hq
theorem spec_l03Holds.ls : loopsOf (bodyOf Go.Proofs.Try.f57) = [] := by kernel_rfl
theorem spec_l03Holds.at_ : Go.Proofs.Try.prog.funcs[57]? = some Go.Proofs.Try.f57 := by kernel_rfl
theorem spec_l03Holds.bd : Go.Proofs.Try.f57.body = some (bodyOf Go.Proofs.Try.f57) := by kernel_rfl
theorem spec_l03Holds.nm : Go.Proofs.Try.f57.name ≠ "runtime.NumGoroutine" := by decide
theorem spec_l03Holds.ok : EntryOK Go.Proofs.Try.prog 57 spec_l03Holds.ent :=
  entry_ok (E := spec_l03Holds.E) (EnvOK.of dok spec_l03Holds.fok) mixed spec_l03Holds.at_ spec_l03Holds.bd spec_l03Holds.nm spec_l03Holds.ls (by intro l hl; simp at hl) spec_l03Holds.eq
/-! ### loop.example/g00038/spec.TlbFlush -/
noncomputable def spec_TlbFlush.E5 : Env := ⟨D, [], [(25, spec_TlbFault.ent), (57, spec_l03Holds.ent)], []⟩
noncomputable def spec_TlbFlush_l5_step (rec : Int → Int → Int → (List (Int × Int × Int × Int × Bool)) → Int → Int → (List (Int × Int × Int × Int × Bool)) → Int → Option ((Int × List (Int × Int × Int × Int × Bool) × Int × Unit))) (y0 : Int) (y1 : Int) (y2 : Int) (y3 : List (Int × Int × Int × Int × Bool)) (y4 : Int) (y5 : Int) (y6 : List (Int × Int × Int × Int × Bool)) (y7 : Int) : Option ((Int × List (Int × Int × Int × Int × Bool) × Int × Unit)) :=
  let b9 : Bool := decide (y2 < (y3.length : Int))
  bif b9 then
    let e10 : Int × Int × Int × Int × Bool := rd R1 y3 y2
    bif decide (0 ≤ y2) && decide (y2 < (y3.length : Int)) then
      let x11 : Int := (bits .and .i64 e10.2.2.2.1 128)
      let b12 : Bool := ((e10.1 == y0) && (x11 == 0))
      let r13 : Bool × Unit := (spec_l03Holds e10.1 e10.2.1 e10.2.2.1 e10.2.2.2.1 e10.2.2.2.2 y1).getD (false, ())
      let b14 : Bool := (decide (y1 < 0) || r13.1)
      let b15 : Bool := ((decide (y0 < 0) || b12) && b14)
      bif (!(decide (y0 < 0) || b12) || (!(!(decide (y1 < 0))) || ((spec_l03Holds e10.1 e10.2.1 e10.2.2.1 e10.2.2.2.1 e10.2.2.2.2 y1).isSome))) then
        bif b15 then
          rec y0 y1 (wrap64 (y2 + 1)) y3 y4 y5 y6 y7
        else
          bif roomy ((y6.length : Int) + ([e10].length : Int)) 40 then
            rec y0 y1 (wrap64 (y2 + 1)) y3 y4 y5 (y6 ++ [e10]) y7
          else none
      else none
    else none
  else
    some (y5, y6, y7, ())
noncomputable def spec_TlbFlush_l5 : Nat → Int → Int → Int → (List (Int × Int × Int × Int × Bool)) → Int → Int → (List (Int × Int × Int × Int × Bool)) → Int → Option ((Int × List (Int × Int × Int × Int × Bool) × Int × Unit))
  | 0 => fun _ _ _ _ _ _ _ _ => none
  | n + 1 => spec_TlbFlush_l5_step (spec_TlbFlush_l5 n)
noncomputable def spec_TlbFlush_l5.ent : LEntry := ⟨sk 1 (.cell (.val .bor (.int .i64)) :: (.cell (.val .bor (.int .i64)) :: (.cell (.fix (.ptr 3 0)) :: (sk 2 (.cell (.fix (.ptr 6 0)) :: (.cell (.fix (.ptr 7 0)) :: (.cell (.val .bor (.int .i64)) :: (sk 50 [])))))))), rk 3 ([.val .bor (.slice (.pair (.int .i64) (.pair (.int .i64) (.pair (.int .i64) (.pair (.int .i64) (.bool)))))), .val .bor (.int .i64)] :: (rk 2 ([.fix (.nil), .val .bor (.int .i64)] :: ([.val .own (.slice (.pair (.int .i64) (.pair (.int .i64) (.pair (.int .i64) (.pair (.int .i64) (.bool)))))), .val .bor (.int .i64)] :: (rk 51 []))))), [], [(7, 0, true, .pair (.int .i64) (.pair (.int .i64) (.pair (.int .i64) (.pair (.int .i64) (.bool)))))], [⟨some 0, sk 6 (.cell (.fix (.ptr 6 0)) :: (.cell (.fix (.ptr 7 0)) :: (sk 51 []))), rk 6 ([.fix (.nil), .val .bor (.int .i64)] :: ([.val .own (.slice (.pair (.int .i64) (.pair (.int .i64) (.pair (.int .i64) (.pair (.int .i64) (.bool)))))), .val .bor (.int .i64)] :: (rk 51 []))), [], []⟩], fun v => spec_TlbFlush_l5 K0 v.1 v.2.1 v.2.2.1 v.2.2.2.1 v.2.2.2.2.1 v.2.2.2.2.2.1 v.2.2.2.2.2.2.1 v.2.2.2.2.2.2.2.1⟩
theorem spec_TlbFlush_l5.eq : ∀ rec v, evStep spec_TlbFlush.E5 (bodyAt 5 Go.Proofs.Try.f16) spec_TlbFlush_l5.ent.ins spec_TlbFlush_l5.ent.rts spec_TlbFlush_l5.ent.hm spec_TlbFlush_l5.ent.nl spec_TlbFlush_l5.ent.xs rec v = spec_TlbFlush_l5_step (fun c0 c1 c2 c3 c4 c5 c6 c7 => rec (c0, c1, c2, c3, c4, c5, c6, c7, ())) v.1 v.2.1 v.2.2.1 v.2.2.2.1 v.2.2.2.2.1 v.2.2.2.2.2.1 v.2.2.2.2.2.2.1 v.2.2.2.2.2.2.2.1 := by intro rec v; kernel_rfl
noncomputable def spec_TlbFlush.E : Env := ⟨D, [], [(25, spec_TlbFault.ent), (57, spec_l03Holds.ent)], [(5, spec_TlbFlush_l5.ent)]⟩
noncomputable def spec_TlbFlush (a0 : List (Int × Int × Int × Int × Bool)) (a1 : Int) (a2 : Int) (a3 : Int) : Option (List (Int × Int × Int × Int × Bool) × Int × Unit) :=
  (spec_TlbFault a0 a1).bind fun r1 =>
  bif (r1.1 != 0) then
    some ([], 0, ())
  else
    (spec_TlbFlush_l5 K0 a2 a3 0 a0 a1 0 [] 0).bind fun o16 =>
    some (o16.2.1, o16.2.2.1, ())
noncomputable def spec_TlbFlush.ent : Entry := ⟨[false, false, false], [.agg [.val .bor (.slice (.pair (.int .i64) (.pair (.int .i64) (.pair (.int .i64) (.pair (.int .i64) (.bool)))))), .val .bor (.int .i64)], .cell (.val .bor (.int .i64)), .cell (.val .bor (.int .i64))], [.agg [.val .own (.slice (.pair (.int .i64) (.pair (.int .i64) (.pair (.int .i64) (.pair (.int .i64) (.bool)))))), .val .bor (.int .i64)]], [], fun v => spec_TlbFlush v.1 v.2.1 v.2.2.1 v.2.2.2.1⟩
theorem spec_TlbFlush.eq : ∀ v, evFn spec_TlbFlush.E Go.Proofs.Try.f16 spec_TlbFlush.ent.ptrs spec_TlbFlush.ent.ins spec_TlbFlush.ent.rets spec_TlbFlush.ent.outs v = spec_TlbFlush.ent.f v := by intro v; kernel_rfl
theorem spec_TlbFlush.fok : ∀ q ∈ [((25 : Nat), spec_TlbFault.ent), ((57 : Nat), spec_l03Holds.ent)], EntryOK Go.Proofs.Try.prog q.1 q.2 := by
  intro q hq
  simp only [List.mem_cons, List.mem_nil_iff, or_false] at hq
  rcases hq with rfl | rfl
  · exact spec_TlbFault.ok
  · exact spec_l03Holds.ok
theorem spec_TlbFlush_l5.it : ∀ n v, iter (evStep spec_TlbFlush.E5 (bodyAt 5 Go.Proofs.Try.f16) spec_TlbFlush_l5.ent.ins spec_TlbFlush_l5.ent.rts spec_TlbFlush_l5.ent.hm spec_TlbFlush_l5.ent.nl spec_TlbFlush_l5.ent.xs) n v = spec_TlbFlush_l5 n v.1 v.2.1 v.2.2.1 v.2.2.2.1 v.2.2.2.2.1 v.2.2.2.2.2.1 v.2.2.2.2.2.2.1 v.2.2.2.2.2.2.2.1 := by
  intro n
  induction n with
  | zero => intro v; rfl
  | succ n ih =>
    intro v
    show (evStep spec_TlbFlush.E5 (bodyAt 5 Go.Proofs.Try.f16) spec_TlbFlush_l5.ent.ins spec_TlbFlush_l5.ent.rts spec_TlbFlush_l5.ent.hm spec_TlbFlush_l5.ent.nl spec_TlbFlush_l5.ent.xs) (iter (evStep spec_TlbFlush.E5 (bodyAt 5 Go.Proofs.Try.f16) spec_TlbFlush_l5.ent.ins spec_TlbFlush_l5.ent.rts spec_TlbFlush_l5.ent.hm spec_TlbFlush_l5.ent.nl spec_TlbFlush_l5.ent.xs) n) v = _
    rw [spec_TlbFlush_l5.eq, show (fun c0 c1 c2 c3 c4 c5 c6 c7 => iter (evStep spec_TlbFlush.E5 (bodyAt 5 Go.Proofs.Try.f16) spec_TlbFlush_l5.ent.ins spec_TlbFlush_l5.ent.rts spec_TlbFlush_l5.ent.hm spec_TlbFlush_l5.ent.nl spec_TlbFlush_l5.ent.xs) n (c0, c1, c2, c3, c4, c5, c6, c7, ())) = spec_TlbFlush_l5 n from by funext c0 c1 c2 c3 c4 c5 c6 c7; exact ih _]
    rfl
theorem spec_TlbFlush_l5.fr : firstRegion (bodyAt 5 Go.Proofs.Try.f16) = 5 := by kernel_rfl
theorem spec_TlbFlush_l5.ls : loopsOf (bodyAt 5 Go.Proofs.Try.f16) = [] := by kernel_rfl
theorem spec_TlbFlush_l5.lok {E : Env} (hpin : spec_TlbFlush.E5.pin = E.pin) (hfind : find 5 E.loops = some spec_TlbFlush_l5.ent) : LoopOK Go.Proofs.Try.prog E (bodyAt 5 Go.Proofs.Try.f16) :=
  loop_of (E1 := spec_TlbFlush.E5) (EnvOK.of dok spec_TlbFlush.fok) mixed hpin (by rw [spec_TlbFlush_l5.fr]; exact hfind) spec_TlbFlush_l5.ls (by intro l hl; simp at hl) (fun v => (spec_TlbFlush_l5.it K0 v).symm)
theorem spec_TlbFlush.ls : loopsOf (bodyOf Go.Proofs.Try.f16) = [bodyAt 5 Go.Proofs.Try.f16] := by kernel_rfl
theorem spec_TlbFlush.at_ : Go.Proofs.Try.prog.funcs[16]? = some Go.Proofs.Try.f16 := by kernel_rfl
theorem spec_TlbFlush.bd : Go.Proofs.Try.f16.body = some (bodyOf Go.Proofs.Try.f16) := by kernel_rfl
theorem spec_TlbFlush.nm : Go.Proofs.Try.f16.name ≠ "runtime.NumGoroutine" := by decide
theorem spec_TlbFlush.ok : EntryOK Go.Proofs.Try.prog 16 spec_TlbFlush.ent :=
  entry_ok (E := spec_TlbFlush.E) (EnvOK.of dok spec_TlbFlush.fok) mixed spec_TlbFlush.at_ spec_TlbFlush.bd spec_TlbFlush.nm spec_TlbFlush.ls (by intro l hl; simp only [List.mem_singleton] at hl; subst hl; exact spec_TlbFlush_l5.lok rfl rfl) spec_TlbFlush.eq
/-! ### loop.example/g00038/impl.yin -/
noncomputable def impl_yin.E : Env := ⟨D, [], [], []⟩
noncomputable def impl_yin (a0 : Int) (a1 : Int) (a2 : Int) : Option (Bool × Unit) :=
  let b1 : Bool := (decide (a0 ≥ a1) && decide (a0 ≤ a2))
  some (b1, ())
noncomputable def impl_yin.ent : Entry := ⟨[false, false, false], [.cell (.val .bor (.int .i64)), .cell (.val .bor (.int .i64)), .cell (.val .bor (.int .i64))], [.cell (.val .bor (.bool))], [], fun v => impl_yin v.1 v.2.1 v.2.2.1⟩
theorem impl_yin.eq : ∀ v, evFn impl_yin.E Go.Proofs.Try.f84 impl_yin.ent.ptrs impl_yin.ent.ins impl_yin.ent.rets impl_yin.ent.outs v = impl_yin.ent.f v := by intro v; kernel_rfl
theorem impl_yin.fok : ∀ q ∈ ([] : List (Nat × Entry)), EntryOK Go.Proofs.Try.prog q.1 q.2 := by intro q hq; simp at hq
theorem impl_yin.ls : loopsOf (bodyOf Go.Proofs.Try.f84) = [] := by kernel_rfl
theorem impl_yin.at_ : Go.Proofs.Try.prog.funcs[84]? = some Go.Proofs.Try.f84 := by kernel_rfl
theorem impl_yin.bd : Go.Proofs.Try.f84.body = some (bodyOf Go.Proofs.Try.f84) := by kernel_rfl
theorem impl_yin.nm : Go.Proofs.Try.f84.name ≠ "runtime.NumGoroutine" := by decide
theorem impl_yin.ok : EntryOK Go.Proofs.Try.prog 84 impl_yin.ent :=
  entry_ok (E := impl_yin.E) (EnvOK.of dok impl_yin.fok) mixed impl_yin.at_ impl_yin.bd impl_yin.nm impl_yin.ls (by intro l hl; simp at hl) impl_yin.eq
/-! ### loop.example/g00038/impl.ytlbEntryOk -/
noncomputable def impl_ytlbEntryOk.E : Env := ⟨D, [], [(84, impl_yin.ent)], []⟩
noncomputable def impl_ytlbEntryOk (a0 : Int) (a1 : Int) (a2 : Int) (a3 : Int) (a4 : Bool) : Option (Bool × Unit) :=
  (impl_yin a0 0 255).bind fun r1 =>
  let r2 : Bool × Unit := (impl_yin a1 0 1023).getD (false, ())
  let r3 : Bool × Unit := (impl_yin a2 0 1023).getD (false, ())
  let r4 : Bool × Unit := (impl_yin a3 0 255).getD (false, ())
  let b5 : Bool := (((r1.1 && r2.1) && r3.1) && r4.1)
  let b6 : Bool := (((Int.tmod a1 32) == 0) && ((Int.tmod a2 32) == 0))
  bif (!r1.1 || ((impl_yin a1 0 1023).isSome)) && ((!(r1.1 && r2.1) || ((impl_yin a2 0 1023).isSome)) && ((!((r1.1 && r2.1) && r3.1) || ((impl_yin a3 0 255).isSome)) && ((!b5 || (!(!(!a4)) || (!((32 : Int) == 0)))) && (!b5 || (!(!(!a4)) || (!((Int.tmod a1 32) == 0) || (!((32 : Int) == 0)))))))) then
    some ((b5 && (!a4 || b6)), ())
  else none
noncomputable def impl_ytlbEntryOk.ent : Entry := ⟨[false], [.agg [.val .bor (.int .i64), .val .bor (.int .i64), .val .bor (.int .i64), .val .bor (.int .i64), .val .bor (.bool)]], [.cell (.val .bor (.bool))], [], fun v => impl_ytlbEntryOk v.1 v.2.1 v.2.2.1 v.2.2.2.1 v.2.2.2.2.1⟩
theorem impl_ytlbEntryOk.eq : ∀ v, evFn impl_ytlbEntryOk.E Go.Proofs.Try.f85 impl_ytlbEntryOk.ent.ptrs impl_ytlbEntryOk.ent.ins impl_ytlbEntryOk.ent.rets impl_ytlbEntryOk.ent.outs v = impl_ytlbEntryOk.ent.f v := by intro v; kernel_rfl
theorem impl_ytlbEntryOk.fok : ∀ q ∈ [((84 : Nat), impl_yin.ent)], EntryOK Go.Proofs.Try.prog q.1 q.2 := by
  intro q hq
  simp only [List.mem_cons, List.mem_nil_iff, or_false] at hq
  rcases hq with rfl
  · exact impl_yin.ok
theorem impl_ytlbEntryOk.ls : loopsOf (bodyOf Go.Proofs.Try.f85) = [] := by kernel_rfl
theorem impl_ytlbEntryOk.at_ : Go.Proofs.Try.prog.funcs[85]? = some Go.Proofs.Try.f85 := by kernel_rfl
theorem impl_ytlbEntryOk.bd : Go.Proofs.Try.f85.body = some (bodyOf Go.Proofs.Try.f85) := by kernel_rfl
theorem impl_ytlbEntryOk.nm : Go.Proofs.Try.f85.name ≠ "runtime.NumGoroutine" := by decide
theorem impl_ytlbEntryOk.ok : EntryOK Go.Proofs.Try.prog 85 impl_ytlbEntryOk.ent :=
  entry_ok (E := impl_ytlbEntryOk.E) (EnvOK.of dok impl_ytlbEntryOk.fok) mixed impl_ytlbEntryOk.at_ impl_ytlbEntryOk.bd impl_ytlbEntryOk.nm impl_ytlbEntryOk.ls (by intro l hl; simp at hl) impl_ytlbEntryOk.eq
/-! ### loop.example/g00038/impl.ysameTlb -/
noncomputable def impl_ysameTlb.E : Env := ⟨D, [], [], []⟩
noncomputable def impl_ysameTlb (a0 : Int) (a1 : Int) (a2 : Int) (a3 : Int) (a4 : Bool) (a5 : Int) (a6 : Int) (a7 : Int) (a8 : Int) (a9 : Bool) : Option (Bool × Unit) :=
  let b1 : Bool := ((a0 == a5) && (a1 == a6))
  some ((b1 && (a4 == a9)), ())
noncomputable def impl_ysameTlb.ent : Entry := ⟨[false, false], [.agg [.val .bor (.int .i64), .val .bor (.int .i64), .val .bor (.int .i64), .val .bor (.int .i64), .val .bor (.bool)], .agg [.val .bor (.int .i64), .val .bor (.int .i64), .val .bor (.int .i64), .val .bor (.int .i64), .val .bor (.bool)]], [.cell (.val .bor (.bool))], [], fun v => impl_ysameTlb v.1 v.2.1 v.2.2.1 v.2.2.2.1 v.2.2.2.2.1 v.2.2.2.2.2.1 v.2.2.2.2.2.2.1 v.2.2.2.2.2.2.2.1 v.2.2.2.2.2.2.2.2.1 v.2.2.2.2.2.2.2.2.2.1⟩
theorem impl_ysameTlb.eq : ∀ v, evFn impl_ysameTlb.E Go.Proofs.Try.f88 impl_ysameTlb.ent.ptrs impl_ysameTlb.ent.ins impl_ysameTlb.ent.rets impl_ysameTlb.ent.outs v = impl_ysameTlb.ent.f v := by intro v; kernel_rfl
theorem impl_ysameTlb.fok : ∀ q ∈ ([] : List (Nat × Entry)), EntryOK Go.Proofs.Try.prog q.1 q.2 := by intro q hq; simp at hq
theorem impl_ysameTlb.ls : loopsOf (bodyOf Go.Proofs.Try.f88) = [] := by kernel_rfl
theorem impl_ysameTlb.at_ : Go.Proofs.Try.prog.funcs[88]? = some Go.Proofs.Try.f88 := by kernel_rfl
theorem impl_ysameTlb.bd : Go.Proofs.Try.f88.body = some (bodyOf Go.Proofs.Try.f88) := by kernel_rfl
theorem impl_ysameTlb.nm : Go.Proofs.Try.f88.name ≠ "runtime.NumGoroutine" := by decide
theorem impl_ysameTlb.ok : EntryOK Go.Proofs.Try.prog 88 impl_ysameTlb.ent :=
  entry_ok (E := impl_ysameTlb.E) (EnvOK.of dok impl_ysameTlb.fok) mixed impl_ysameTlb.at_ impl_ysameTlb.bd impl_ysameTlb.nm impl_ysameTlb.ls (by intro l hl; simp at hl) impl_ysameTlb.eq
/-! ### loop.example/g00038/impl.TlbFault$1 -/
noncomputable def impl_TlbFault_1.E : Env := ⟨D, [], [(88, impl_ysameTlb.ent)], []⟩
noncomputable def impl_TlbFault_1 (a0 : Int) (a1 : Int) (a2 : Int) (a3 : Int) (a4 : Bool) (a5 : Int) (a6 : Int) (a7 : Int) (a8 : Int) (a9 : Bool) : Option (Bool × Unit) :=
  (impl_ysameTlb a0 a1 a2 a3 a4 a5 a6 a7 a8 a9).bind fun r1 =>
  some (r1.1, ())
noncomputable def impl_TlbFault_1.ent : Entry := ⟨[false, false], [.agg [.val .bor (.int .i64), .val .bor (.int .i64), .val .bor (.int .i64), .val .bor (.int .i64), .val .bor (.bool)], .rop [.val .bor (.int .i64), .val .bor (.int .i64), .val .bor (.int .i64), .val .bor (.int .i64), .val .bor (.bool)]], [.cell (.val .bor (.bool))], [], fun v => impl_TlbFault_1 v.1 v.2.1 v.2.2.1 v.2.2.2.1 v.2.2.2.2.1 v.2.2.2.2.2.1 v.2.2.2.2.2.2.1 v.2.2.2.2.2.2.2.1 v.2.2.2.2.2.2.2.2.1 v.2.2.2.2.2.2.2.2.2.1⟩
theorem impl_TlbFault_1.eq : ∀ v, evFn impl_TlbFault_1.E Go.Proofs.Try.f87 impl_TlbFault_1.ent.ptrs impl_TlbFault_1.ent.ins impl_TlbFault_1.ent.rets impl_TlbFault_1.ent.outs v = impl_TlbFault_1.ent.f v := by intro v; kernel_rfl
theorem impl_TlbFault_1.fok : ∀ q ∈ [((88 : Nat), impl_ysameTlb.ent)], EntryOK Go.Proofs.Try.prog q.1 q.2 := by
  intro q hq
  simp only [List.mem_cons, List.mem_nil_iff, or_false] at hq
  rcases hq with rfl
  · exact impl_ysameTlb.ok
theorem impl_TlbFault_1.ls : loopsOf (bodyOf Go.Proofs.Try.f87) = [] := by kernel_rfl
theorem impl_TlbFault_1.at_ : Go.Proofs.Try.prog.funcs[87]? = some Go.Proofs.Try.f87 := by kernel_rfl
theorem impl_TlbFault_1.bd : Go.Proofs.Try.f87.body = some (bodyOf Go.Proofs.Try.f87) := by kernel_rfl
theorem impl_TlbFault_1.nm : Go.Proofs.Try.f87.name ≠ "runtime.NumGoroutine" := by decide
theorem impl_TlbFault_1.ok : EntryOK Go.Proofs.Try.prog 87 impl_TlbFault_1.ent :=
  entry_ok (E := impl_TlbFault_1.E) (EnvOK.of dok impl_TlbFault_1.fok) mixed impl_TlbFault_1.at_ impl_TlbFault_1.bd impl_TlbFault_1.nm impl_TlbFault_1.ls (by intro l hl; simp at hl) impl_TlbFault_1.eq
/-! ### slices.IndexFunc[[]loop.example/g00038/impl.TlbEntry,loop.example/g00038/impl.TlbEntry] -/
noncomputable def slices_IndexFunc_TlbEntry.E2 : Env := ⟨D, [], [(87, impl_TlbFault_1.ent)], []⟩
noncomputable def slices_IndexFunc_TlbEntry_l2_step (rec : (List (Int × Int × Int × Int × Bool)) → Int → Int → Int → Int → Bool → Int → Int → Option ((Int × Unit) ⊕ (Unit))) (y0 : List (Int × Int × Int × Int × Bool)) (y1 : Int) (y2 : Int) (y3 : Int) (y4 : Int) (y5 : Bool) (y6 : Int) (y7 : Int) : Option ((Int × Unit) ⊕ (Unit)) :=
  bif decide (y7 < y6) then
    let e1 : Int × Int × Int × Int × Bool := rd R1 y0 y7
    (impl_TlbFault_1 e1.1 e1.2.1 e1.2.2.1 e1.2.2.2.1 e1.2.2.2.2 y1 y2 y3 y4 y5).bind fun r2 =>
    bif decide (0 ≤ y7) && decide (y7 < (y0.length : Int)) then
      bif r2.1 then
        some (Sum.inl (y7, ()))
      else
        rec y0 y1 y2 y3 y4 y5 y6 (wrap64 (y7 + 1))
    else none
  else
    some (Sum.inr ())
noncomputable def slices_IndexFunc_TlbEntry_l2 : Nat → (List (Int × Int × Int × Int × Bool)) → Int → Int → Int → Int → Bool → Int → Int → Option ((Int × Unit) ⊕ (Unit))
  | 0 => fun _ _ _ _ _ _ _ _ => none
  | n + 1 => slices_IndexFunc_TlbEntry_l2_step (slices_IndexFunc_TlbEntry_l2 n)
noncomputable def slices_IndexFunc_TlbEntry_l2.ent : LEntry := ⟨(.cell (.val .bor (.slice (.pair (.int .i64) (.pair (.int .i64) (.pair (.int .i64) (.pair (.int .i64) (.bool))))))) :: (.clo 87 [[.val .bor (.int .i64), .val .bor (.int .i64), .val .bor (.int .i64), .val .bor (.int .i64), .val .bor (.bool)]] :: (sk 5 (.cell (.val .bor (.int .i64)) :: (.cell (.val .bor (.int .i64)) :: (sk 10 [])))))), rk 19 [], [], [], [⟨none, sk 4 (.cell (.val .bor (.int .i64)) :: (sk 14 [])), rk 19 [], [], []⟩, ⟨some 0, sk 19 [], rk 19 [], [], []⟩], fun v => slices_IndexFunc_TlbEntry_l2 K0 v.1 v.2.1 v.2.2.1 v.2.2.2.1 v.2.2.2.2.1 v.2.2.2.2.2.1 v.2.2.2.2.2.2.1 v.2.2.2.2.2.2.2.1⟩
theorem slices_IndexFunc_TlbEntry_l2.eq : ∀ rec v, evStep slices_IndexFunc_TlbEntry.E2 (bodyAt 2 Go.Proofs.Try.f61) slices_IndexFunc_TlbEntry_l2.ent.ins slices_IndexFunc_TlbEntry_l2.ent.rts slices_IndexFunc_TlbEntry_l2.ent.hm slices_IndexFunc_TlbEntry_l2.ent.nl slices_IndexFunc_TlbEntry_l2.ent.xs rec v = slices_IndexFunc_TlbEntry_l2_step (fun c0 c1 c2 c3 c4 c5 c6 c7 => rec (c0, c1, c2, c3, c4, c5, c6, c7, ())) v.1 v.2.1 v.2.2.1 v.2.2.2.1 v.2.2.2.2.1 v.2.2.2.2.2.1 v.2.2.2.2.2.2.1 v.2.2.2.2.2.2.2.1 := by intro rec v; kernel_rfl
noncomputable def slices_IndexFunc_TlbEntry.E : Env := ⟨D, [], [(87, impl_TlbFault_1.ent)], [(2, slices_IndexFunc_TlbEntry_l2.ent)]⟩
noncomputable def slices_IndexFunc_TlbEntry (a0 : List (Int × Int × Int × Int × Bool)) (a1 : Int) (a2 : Int) (a3 : Int) (a4 : Int) (a5 : Bool) : Option (Int × Unit) :=
  (slices_IndexFunc_TlbEntry_l2 K0 a0 a1 a2 a3 a4 a5 (a0.length : Int) 0).bind fun o3 =>
  match o3 with
  | Sum.inl p4 =>
    some (p4.1, ())
  | Sum.inr p5 =>
    some (-1, ())
noncomputable def slices_IndexFunc_TlbEntry.ent : Entry := ⟨[false, false], [.cell (.val .bor (.slice (.pair (.int .i64) (.pair (.int .i64) (.pair (.int .i64) (.pair (.int .i64) (.bool))))))), .clo 87 [[.val .bor (.int .i64), .val .bor (.int .i64), .val .bor (.int .i64), .val .bor (.int .i64), .val .bor (.bool)]]], [.cell (.val .bor (.int .i64))], [], fun v => slices_IndexFunc_TlbEntry v.1 v.2.1 v.2.2.1 v.2.2.2.1 v.2.2.2.2.1 v.2.2.2.2.2.1⟩
theorem slices_IndexFunc_TlbEntry.eq : ∀ v, evFn slices_IndexFunc_TlbEntry.E Go.Proofs.Try.f61 slices_IndexFunc_TlbEntry.ent.ptrs slices_IndexFunc_TlbEntry.ent.ins slices_IndexFunc_TlbEntry.ent.rets slices_IndexFunc_TlbEntry.ent.outs v = slices_IndexFunc_TlbEntry.ent.f v := by intro v; kernel_rfl
theorem slices_IndexFunc_TlbEntry.fok : ∀ q ∈ [((87 : Nat), impl_TlbFault_1.ent)], EntryOK Go.Proofs.Try.prog q.1 q.2 := by
  intro q hq
  simp only [List.mem_cons, List.mem_nil_iff, or_false] at hq
  rcases hq with rfl
  · exact impl_TlbFault_1.ok
theorem slices_IndexFunc_TlbEntry_l2.it : ∀ n v, iter (evStep slices_IndexFunc_TlbEntry.E2 (bodyAt 2 Go.Proofs.Try.f61) slices_IndexFunc_TlbEntry_l2.ent.ins slices_IndexFunc_TlbEntry_l2.ent.rts slices_IndexFunc_TlbEntry_l2.ent.hm slices_IndexFunc_TlbEntry_l2.ent.nl slices_IndexFunc_TlbEntry_l2.ent.xs) n v = slices_IndexFunc_TlbEntry_l2 n v.1 v.2.1 v.2.2.1 v.2.2.2.1 v.2.2.2.2.1 v.2.2.2.2.2.1 v.2.2.2.2.2.2.1 v.2.2.2.2.2.2.2.1 := by
  intro n
  induction n with
  | zero => intro v; rfl
  | succ n ih =>
    intro v
    show (evStep slices_IndexFunc_TlbEntry.E2 (bodyAt 2 Go.Proofs.Try.f61) slices_IndexFunc_TlbEntry_l2.ent.ins slices_IndexFunc_TlbEntry_l2.ent.rts slices_IndexFunc_TlbEntry_l2.ent.hm slices_IndexFunc_TlbEntry_l2.ent.nl slices_IndexFunc_TlbEntry_l2.ent.xs) (iter (evStep slices_IndexFunc_TlbEntry.E2 (bodyAt 2 Go.Proofs.Try.f61) slices_IndexFunc_TlbEntry_l2.ent.ins slices_IndexFunc_TlbEntry_l2.ent.rts slices_IndexFunc_TlbEntry_l2.ent.hm slices_IndexFunc_TlbEntry_l2.ent.nl slices_IndexFunc_TlbEntry_l2.ent.xs) n) v = _
    rw [slices_IndexFunc_TlbEntry_l2.eq, show (fun c0 c1 c2 c3 c4 c5 c6 c7 => iter (evStep slices_IndexFunc_TlbEntry.E2 (bodyAt 2 Go.Proofs.Try.f61) slices_IndexFunc_TlbEntry_l2.ent.ins slices_IndexFunc_TlbEntry_l2.ent.rts slices_IndexFunc_TlbEntry_l2.ent.hm slices_IndexFunc_TlbEntry_l2.ent.nl slices_IndexFunc_TlbEntry_l2.ent.xs) n (c0, c1, c2, c3, c4, c5, c6, c7, ())) = slices_IndexFunc_TlbEntry_l2 n from by funext c0 c1 c2 c3 c4 c5 c6 c7; exact ih _]
    rfl
theorem slices_IndexFunc_TlbEntry_l2.fr : firstRegion (bodyAt 2 Go.Proofs.Try.f61) = 2 := by kernel_rfl
theorem slices_IndexFunc_TlbEntry_l2.ls : loopsOf (bodyAt 2 Go.Proofs.Try.f61) = [] := by kernel_rfl
theorem slices_IndexFunc_TlbEntry_l2.lok {E : Env} (hpin : slices_IndexFunc_TlbEntry.E2.pin = E.pin) (hfind : find 2 E.loops = some slices_IndexFunc_TlbEntry_l2.ent) : LoopOK Go.Proofs.Try.prog E (bodyAt 2 Go.Proofs.Try.f61) :=
  loop_of (E1 := slices_IndexFunc_TlbEntry.E2) (EnvOK.of dok slices_IndexFunc_TlbEntry.fok) mixed hpin (by rw [slices_IndexFunc_TlbEntry_l2.fr]; exact hfind) slices_IndexFunc_TlbEntry_l2.ls (by intro l hl; simp at hl) (fun v => (slices_IndexFunc_TlbEntry_l2.it K0 v).symm)
theorem slices_IndexFunc_TlbEntry.ls : loopsOf (bodyOf Go.Proofs.Try.f61) = [bodyAt 2 Go.Proofs.Try.f61] := by kernel_rfl
theorem slices_IndexFunc_TlbEntry.at_ : Go.Proofs.Try.prog.funcs[61]? = some Go.Proofs.Try.f61 := by kernel_rfl
theorem slices_IndexFunc_TlbEntry.bd : Go.Proofs.Try.f61.body = some (bodyOf Go.Proofs.Try.f61) := by kernel_rfl
theorem slices_IndexFunc_TlbEntry.nm : Go.Proofs.Try.f61.name ≠ "runtime.NumGoroutine" := by decide
theorem slices_IndexFunc_TlbEntry.ok : EntryOK Go.Proofs.Try.prog 61 slices_IndexFunc_TlbEntry.ent :=
  entry_ok (E := slices_IndexFunc_TlbEntry.E) (EnvOK.of dok slices_IndexFunc_TlbEntry.fok) mixed slices_IndexFunc_TlbEntry.at_ slices_IndexFunc_TlbEntry.bd slices_IndexFunc_TlbEntry.nm slices_IndexFunc_TlbEntry.ls (by intro l hl; simp only [List.mem_singleton] at hl; subst hl; exact slices_IndexFunc_TlbEntry_l2.lok rfl rfl) slices_IndexFunc_TlbEntry.eq
/-! ### slices.ContainsFunc[[]loop.example/g00038/impl.TlbEntry,loop.example/g00038/impl.TlbEntry] -/
noncomputable def slices_ContainsFunc_TlbEntry.E : Env := ⟨D, [], [(61, slices_IndexFunc_TlbEntry.ent)], []⟩
noncomputable def slices_ContainsFunc_TlbEntry (a0 : List (Int × Int × Int × Int × Bool)) (a1 : Int) (a2 : Int) (a3 : Int) (a4 : Int) (a5 : Bool) : Option (Bool × Unit) :=
  (slices_IndexFunc_TlbEntry a0 a1 a2 a3 a4 a5).bind fun r1 =>
  some (decide (r1.1 ≥ 0), ())
noncomputable def slices_ContainsFunc_TlbEntry.ent : Entry := ⟨[false, false], [.cell (.val .bor (.slice (.pair (.int .i64) (.pair (.int .i64) (.pair (.int .i64) (.pair (.int .i64) (.bool))))))), .clo 87 [[.val .bor (.int .i64), .val .bor (.int .i64), .val .bor (.int .i64), .val .bor (.int .i64), .val .bor (.bool)]]], [.cell (.val .bor (.bool))], [], fun v => slices_ContainsFunc_TlbEntry v.1 v.2.1 v.2.2.1 v.2.2.2.1 v.2.2.2.2.1 v.2.2.2.2.2.1⟩
theorem slices_ContainsFunc_TlbEntry.eq : ∀ v, evFn slices_ContainsFunc_TlbEntry.E Go.Proofs.Try.f86 slices_ContainsFunc_TlbEntry.ent.ptrs slices_ContainsFunc_TlbEntry.ent.ins slices_ContainsFunc_TlbEntry.ent.rets slices_ContainsFunc_TlbEntry.ent.outs v = slices_ContainsFunc_TlbEntry.ent.f v := by intro v; kernel_rfl
theorem slices_ContainsFunc_TlbEntry.fok : ∀ q ∈ [((61 : Nat), slices_IndexFunc_TlbEntry.ent)], EntryOK Go.Proofs.Try.prog q.1 q.2 := by
  intro q hq
  simp only [List.mem_cons, List.mem_nil_iff, or_false] at hq
  rcases hq with rfl
  · exact slices_IndexFunc_TlbEntry.ok
theorem slices_ContainsFunc_TlbEntry.ls : loopsOf (bodyOf Go.Proofs.Try.f86) = [] := by kernel_rfl
theorem slices_ContainsFunc_TlbEntry.at_ : Go.Proofs.Try.prog.funcs[86]? = some Go.Proofs.Try.f86 := by kernel_rfl
theorem slices_ContainsFunc_TlbEntry.bd : Go.Proofs.Try.f86.body = some (bodyOf Go.Proofs.Try.f86) := by kernel_rfl
theorem slices_ContainsFunc_TlbEntry.nm : Go.Proofs.Try.f86.name ≠ "runtime.NumGoroutine" := by decide
theorem slices_ContainsFunc_TlbEntry.ok : EntryOK Go.Proofs.Try.prog 86 slices_ContainsFunc_TlbEntry.ent :=
  entry_ok (E := slices_ContainsFunc_TlbEntry.E) (EnvOK.of dok slices_ContainsFunc_TlbEntry.fok) mixed slices_ContainsFunc_TlbEntry.at_ slices_ContainsFunc_TlbEntry.bd slices_ContainsFunc_TlbEntry.nm slices_ContainsFunc_TlbEntry.ls (by intro l hl; simp at hl) slices_ContainsFunc_TlbEntry.eq
/-! ### loop.example/g00038/impl.TlbFault -/
noncomputable def impl_TlbFault.E4 : Env := ⟨D, [], [(84, impl_yin.ent), (85, impl_ytlbEntryOk.ent), (86, slices_ContainsFunc_TlbEntry.ent)], []⟩
noncomputable def impl_TlbFault_l4_step (rec : (List (Int × Int × Int × Int × Bool)) → Int → Int → (List (Int × Int × Int × Int × Bool)) → Int → Option ((Int × Unit) ⊕ (Unit))) (y0 : List (Int × Int × Int × Int × Bool)) (y1 : Int) (y2 : Int) (y3 : List (Int × Int × Int × Int × Bool)) (y4 : Int) : Option ((Int × Unit) ⊕ (Unit)) :=
  bif decide (y2 < y1) then
    let e3 : Int × Int × Int × Int × Bool := rd R1 y0 y2
    bif decide (0 ≤ y2) && decide (y2 < (y0.length : Int)) then
      (impl_ytlbEntryOk e3.1 e3.2.1 e3.2.2.1 e3.2.2.2.1 e3.2.2.2.2).bind fun r4 =>
      let r5 : Bool × Unit := (slices_ContainsFunc_TlbEntry (y3.take y2.toNat) e3.1 e3.2.1 e3.2.2.1 e3.2.2.2.1 e3.2.2.2.2).getD (false, ())
      bif (!(!(!r4.1)) || (decide (0 ≤ y2) && decide (y2 ≤ (y3.length : Int)))) && (!(!(!r4.1)) || ((slices_ContainsFunc_TlbEntry (y3.take y2.toNat) e3.1 e3.2.1 e3.2.2.1 e3.2.2.2.1 e3.2.2.2.2).isSome)) then
        bif (!r4.1 || r5.1) then
          some (Sum.inl (1, ()))
        else
          rec y0 y1 (wrap64 (y2 + 1)) y3 y4
      else none
    else none
  else
    some (Sum.inr ())
noncomputable def impl_TlbFault_l4 : Nat → (List (Int × Int × Int × Int × Bool)) → Int → Int → (List (Int × Int × Int × Int × Bool)) → Int → Option ((Int × Unit) ⊕ (Unit))
  | 0 => fun _ _ _ _ _ => none
  | n + 1 => impl_TlbFault_l4_step (impl_TlbFault_l4 n)
noncomputable def impl_TlbFault_l4.ent : LEntry := ⟨sk 1 (.cell (.fix (.ptr 1 0)) :: (sk 14 (.cell (.val .bor (.slice (.pair (.int .i64) (.pair (.int .i64) (.pair (.int .i64) (.pair (.int .i64) (.bool))))))) :: (.cell (.val .bor (.int .i64)) :: (.cell (.val .bor (.int .i64)) :: (sk 16 [])))))), rk 1 ([.val .bor (.slice (.pair (.int .i64) (.pair (.int .i64) (.pair (.int .i64) (.pair (.int .i64) (.bool)))))), .val .bor (.int .i64)] :: (rk 33 [])), [], [], [⟨none, sk 2 (.cell (.val .bor (.int .i64)) :: (sk 32 [])), rk 35 [], [], []⟩, ⟨some 0, sk 35 [], rk 35 [], [], []⟩], fun v => impl_TlbFault_l4 K0 v.1 v.2.1 v.2.2.1 v.2.2.2.1 v.2.2.2.2.1⟩
theorem impl_TlbFault_l4.eq : ∀ rec v, evStep impl_TlbFault.E4 (bodyAt 4 Go.Proofs.Try.f24) impl_TlbFault_l4.ent.ins impl_TlbFault_l4.ent.rts impl_TlbFault_l4.ent.hm impl_TlbFault_l4.ent.nl impl_TlbFault_l4.ent.xs rec v = impl_TlbFault_l4_step (fun c0 c1 c2 c3 c4 => rec (c0, c1, c2, c3, c4, ())) v.1 v.2.1 v.2.2.1 v.2.2.2.1 v.2.2.2.2.1 := by intro rec v; kernel_rfl
noncomputable def impl_TlbFault.E : Env := ⟨D, [], [(84, impl_yin.ent), (85, impl_ytlbEntryOk.ent), (86, slices_ContainsFunc_TlbEntry.ent)], [(4, impl_TlbFault_l4.ent)]⟩
noncomputable def impl_TlbFault (a0 : List (Int × Int × Int × Int × Bool)) (a1 : Int) : Option (Int × Unit) :=
  let b1 : Bool := decide ((a0.length : Int) > 16)
  let r2 : Bool × Unit := (impl_yin a1 0 15).getD (false, ())
  bif (!(!b1) || ((impl_yin a1 0 15).isSome)) then
    bif (b1 || !r2.1) then
      some (1, ())
    else
      (impl_TlbFault_l4 K0 a0 (a0.length : Int) 0 a0 a1).bind fun o6 =>
      match o6 with
      | Sum.inl p7 =>
        some (p7.1, ())
      | Sum.inr p8 =>
        some (0, ())
  else none
noncomputable def impl_TlbFault.ent : Entry := ⟨[false], [.agg [.val .bor (.slice (.pair (.int .i64) (.pair (.int .i64) (.pair (.int .i64) (.pair (.int .i64) (.bool)))))), .val .bor (.int .i64)]], [.cell (.val .bor (.int .i64))], [], fun v => impl_TlbFault v.1 v.2.1⟩
theorem impl_TlbFault.eq : ∀ v, evFn impl_TlbFault.E Go.Proofs.Try.f24 impl_TlbFault.ent.ptrs impl_TlbFault.ent.ins impl_TlbFault.ent.rets impl_TlbFault.ent.outs v = impl_TlbFault.ent.f v := by intro v; kernel_rfl
theorem impl_TlbFault.fok : ∀ q ∈ [((84 : Nat), impl_yin.ent), ((85 : Nat), impl_ytlbEntryOk.ent), ((86 : Nat), slices_ContainsFunc_TlbEntry.ent)], EntryOK Go.Proofs.Try.prog q.1 q.2 := by
  intro q hq
  simp only [List.mem_cons, List.mem_nil_iff, or_false] at hq
  rcases hq with rfl | rfl | rfl
  · exact impl_yin.ok
  · exact impl_ytlbEntryOk.ok
  · exact slices_ContainsFunc_TlbEntry.ok
theorem impl_TlbFault_l4.it : ∀ n v, iter (evStep impl_TlbFault.E4 (bodyAt 4 Go.Proofs.Try.f24) impl_TlbFault_l4.ent.ins impl_TlbFault_l4.ent.rts impl_TlbFault_l4.ent.hm impl_TlbFault_l4.ent.nl impl_TlbFault_l4.ent.xs) n v = impl_TlbFault_l4 n v.1 v.2.1 v.2.2.1 v.2.2.2.1 v.2.2.2.2.1 := by
  intro n
  induction n with
  | zero => intro v; rfl
  | succ n ih =>
    intro v
    show (evStep impl_TlbFault.E4 (bodyAt 4 Go.Proofs.Try.f24) impl_TlbFault_l4.ent.ins impl_TlbFault_l4.ent.rts impl_TlbFault_l4.ent.hm impl_TlbFault_l4.ent.nl impl_TlbFault_l4.ent.xs) (iter (evStep impl_TlbFault.E4 (bodyAt 4 Go.Proofs.Try.f24) impl_TlbFault_l4.ent.ins impl_TlbFault_l4.ent.rts impl_TlbFault_l4.ent.hm impl_TlbFault_l4.ent.nl impl_TlbFault_l4.ent.xs) n) v = _
    rw [impl_TlbFault_l4.eq, show (fun c0 c1 c2 c3 c4 => iter (evStep impl_TlbFault.E4 (bodyAt 4 Go.Proofs.Try.f24) impl_TlbFault_l4.ent.ins impl_TlbFault_l4.ent.rts impl_TlbFault_l4.ent.hm impl_TlbFault_l4.ent.nl impl_TlbFault_l4.ent.xs) n (c0, c1, c2, c3, c4, ())) = impl_TlbFault_l4 n from by funext c0 c1 c2 c3 c4; exact ih _]
    rfl
theorem impl_TlbFault_l4.fr : firstRegion (bodyAt 4 Go.Proofs.Try.f24) = 4 := by kernel_rfl
theorem impl_TlbFault_l4.ls : loopsOf (bodyAt 4 Go.Proofs.Try.f24) = [] := by kernel_rfl
theorem impl_TlbFault_l4.lok {E : Env} (hpin : impl_TlbFault.E4.pin = E.pin) (hfind : find 4 E.loops = some impl_TlbFault_l4.ent) : LoopOK Go.Proofs.Try.prog E (bodyAt 4 Go.Proofs.Try.f24) :=
  loop_of (E1 := impl_TlbFault.E4) (EnvOK.of dok impl_TlbFault.fok) mixed hpin (by rw [impl_TlbFault_l4.fr]; exact hfind) impl_TlbFault_l4.ls (by intro l hl; simp at hl) (fun v => (impl_TlbFault_l4.it K0 v).symm)
theorem impl_TlbFault.ls : loopsOf (bodyOf Go.Proofs.Try.f24) = [bodyAt 4 Go.Proofs.Try.f24] := by kernel_rfl
theorem impl_TlbFault.at_ : Go.Proofs.Try.prog.funcs[24]? = some Go.Proofs.Try.f24 := by kernel_rfl
theorem impl_TlbFault.bd : Go.Proofs.Try.f24.body = some (bodyOf Go.Proofs.Try.f24) := by kernel_rfl
theorem impl_TlbFault.nm : Go.Proofs.Try.f24.name ≠ "runtime.NumGoroutine" := by decide
theorem impl_TlbFault.ok : EntryOK Go.Proofs.Try.prog 24 impl_TlbFault.ent :=
  entry_ok (E := impl_TlbFault.E) (EnvOK.of dok impl_TlbFault.fok) mixed impl_TlbFault.at_ impl_TlbFault.bd impl_TlbFault.nm impl_TlbFault.ls (by intro l hl; simp only [List.mem_singleton] at hl; subst hl; exact impl_TlbFault_l4.lok rfl rfl) impl_TlbFault.eq
/-! ### slices.Clone[[]loop.example/g00038/impl.TlbEntry,loop.example/g00038/impl.TlbEntry] -/
noncomputable def slices_Clone_TlbEntry.E : Env := ⟨D, [], [], []⟩
noncomputable def slices_Clone_TlbEntry (a0 : List (Int × Int × Int × Int × Bool)) : Option (List (Int × Int × Int × Int × Bool) × Unit) :=
  both a0.isEmpty (
    some ([], ())) (
    bif roomy (0 + (a0.length : Int)) 40 then
      some (([] ++ a0), ())
    else none)
noncomputable def slices_Clone_TlbEntry.ent : Entry := ⟨[false], [.cell (.val .bor (.slice (.pair (.int .i64) (.pair (.int .i64) (.pair (.int .i64) (.pair (.int .i64) (.bool)))))))], [.cell (.val .own (.slice (.pair (.int .i64) (.pair (.int .i64) (.pair (.int .i64) (.pair (.int .i64) (.bool)))))))], [], fun v => slices_Clone_TlbEntry v.1⟩
theorem slices_Clone_TlbEntry.eq : ∀ v, evFn slices_Clone_TlbEntry.E Go.Proofs.Try.f67 slices_Clone_TlbEntry.ent.ptrs slices_Clone_TlbEntry.ent.ins slices_Clone_TlbEntry.ent.rets slices_Clone_TlbEntry.ent.outs v = slices_Clone_TlbEntry.ent.f v := by intro v; kernel_rfl
theorem slices_Clone_TlbEntry.fok : ∀ q ∈ ([] : List (Nat × Entry)), EntryOK Go.Proofs.Try.prog q.1 q.2 := by intro q hq; simp at hq
theorem slices_Clone_TlbEntry.ls : loopsOf (bodyOf Go.Proofs.Try.f67) = [] := by kernel_rfl
theorem slices_Clone_TlbEntry.at_ : Go.Proofs.Try.prog.funcs[67]? = some Go.Proofs.Try.f67 := by kernel_rfl
theorem slices_Clone_TlbEntry.bd : Go.Proofs.Try.f67.body = some (bodyOf Go.Proofs.Try.f67) := by kernel_rfl
theorem slices_Clone_TlbEntry.nm : Go.Proofs.Try.f67.name ≠ "runtime.NumGoroutine" := by decide
theorem slices_Clone_TlbEntry.ok : EntryOK Go.Proofs.Try.prog 67 slices_Clone_TlbEntry.ent :=
  entry_ok (E := slices_Clone_TlbEntry.E) (EnvOK.of dok slices_Clone_TlbEntry.fok) mixed slices_Clone_TlbEntry.at_ slices_Clone_TlbEntry.bd slices_Clone_TlbEntry.nm slices_Clone_TlbEntry.ls (by intro l hl; simp at hl) slices_Clone_TlbEntry.eq
/-! ### (loop.example/g00038/impl.TlbEntry).yholds -/
noncomputable def impl_TlbEntry_yholds.E : Env := ⟨D, [], [], []⟩
noncomputable def impl_TlbEntry_yholds (a0 : Int) (a1 : Int) (a2 : Int) (a3 : Int) (a4 : Bool) (a5 : Int) : Option (Bool × Unit) :=
  bif a4 then
    let b1 : Bool := (shr .i64 a1 5 == shr .i64 a5 13)
    bif (decide (0 ≤ (5 : Int))) && (decide (0 ≤ (13 : Int))) then
      some (b1, ())
    else none
  else
    bif decide (0 ≤ (8 : Int)) then
      some ((a1 == shr .i64 a5 8), ())
    else none
noncomputable def impl_TlbEntry_yholds.ent : Entry := ⟨[false, false], [.agg [.val .bor (.int .i64), .val .bor (.int .i64), .val .bor (.int .i64), .val .bor (.int .i64), .val .bor (.bool)], .cell (.val .bor (.int .i64))], [.cell (.val .bor (.bool))], [], fun v => impl_TlbEntry_yholds v.1 v.2.1 v.2.2.1 v.2.2.2.1 v.2.2.2.2.1 v.2.2.2.2.2.1⟩
theorem impl_TlbEntry_yholds.eq : ∀ v, evFn impl_TlbEntry_yholds.E Go.Proofs.Try.f63 impl_TlbEntry_yholds.ent.ptrs impl_TlbEntry_yholds.ent.ins impl_TlbEntry_yholds.ent.rets impl_TlbEntry_yholds.ent.outs v = impl_TlbEntry_yholds.ent.f v := by intro v; kernel_rfl
theorem impl_TlbEntry_yholds.fok : ∀ q ∈ ([] : List (Nat × Entry)), EntryOK Go.Proofs.Try.prog q.1 q.2 := by intro q hq; simp at hq
theorem impl_TlbEntry_yholds.ls : loopsOf (bodyOf Go.Proofs.Try.f63) = [] := by kernel_rfl
theorem impl_TlbEntry_yholds.at_ : Go.Proofs.Try.prog.funcs[63]? = some Go.Proofs.Try.f63 := by kernel_rfl
theorem impl_TlbEntry_yholds.bd : Go.Proofs.Try.f63.body = some (bodyOf Go.Proofs.Try.f63) := by kernel_rfl
theorem impl_TlbEntry_yholds.nm : Go.Proofs.Try.f63.name ≠ "runtime.NumGoroutine" := by decide
theorem impl_TlbEntry_yholds.ok : EntryOK Go.Proofs.Try.prog 63 impl_TlbEntry_yholds.ent :=
  entry_ok (E := impl_TlbEntry_yholds.E) (EnvOK.of dok impl_TlbEntry_yholds.fok) mixed impl_TlbEntry_yholds.at_ impl_TlbEntry_yholds.bd impl_TlbEntry_yholds.nm impl_TlbEntry_yholds.ls (by intro l hl; simp at hl) impl_TlbEntry_yholds.eq
/-! ### loop.example/g00038/impl.TlbFlush$1 -/
noncomputable def impl_TlbFlush_1.E : Env := ⟨D, [], [(63, impl_TlbEntry_yholds.ent)], []⟩
noncomputable def impl_TlbFlush_1 (a0 : Int) (a1 : Int) (a2 : Int) (a3 : Int) (a4 : Bool) (a5 : Int) (a6 : Int) : Option (Bool × Unit) :=
  let b1 : Bool := ((bits .and .i64 a3 128) == 0)
  let b2 : Bool := (decide (a5 < 0) || ((a0 == a5) && b1))
  let r3 : Bool × Unit := (impl_TlbEntry_yholds a0 a1 a2 a3 a4 a6).getD (false, ())
  let b4 : Bool := (decide (a6 < 0) || r3.1)
  bif (!b2 || (!(!(decide (a6 < 0))) || ((impl_TlbEntry_yholds a0 a1 a2 a3 a4 a6).isSome))) then
    some ((b2 && b4), ())
  else none
noncomputable def impl_TlbFlush_1.ent : Entry := ⟨[false, false, false], [.agg [.val .bor (.int .i64), .val .bor (.int .i64), .val .bor (.int .i64), .val .bor (.int .i64), .val .bor (.bool)], .rop [.val .bor (.int .i64)], .rop [.val .bor (.int .i64)]], [.cell (.val .bor (.bool))], [], fun v => impl_TlbFlush_1 v.1 v.2.1 v.2.2.1 v.2.2.2.1 v.2.2.2.2.1 v.2.2.2.2.2.1 v.2.2.2.2.2.2.1⟩
theorem impl_TlbFlush_1.eq : ∀ v, evFn impl_TlbFlush_1.E Go.Proofs.Try.f68 impl_TlbFlush_1.ent.ptrs impl_TlbFlush_1.ent.ins impl_TlbFlush_1.ent.rets impl_TlbFlush_1.ent.outs v = impl_TlbFlush_1.ent.f v := by intro v; kernel_rfl
theorem impl_TlbFlush_1.fok : ∀ q ∈ [((63 : Nat), impl_TlbEntry_yholds.ent)], EntryOK Go.Proofs.Try.prog q.1 q.2 := by
  intro q hq
  simp only [List.mem_cons, List.mem_nil_iff, or_false] at hq
  rcases hq with rfl
  · exact impl_TlbEntry_yholds.ok
theorem impl_TlbFlush_1.ls : loopsOf (bodyOf Go.Proofs.Try.f68) = [] := by kernel_rfl
theorem impl_TlbFlush_1.at_ : Go.Proofs.Try.prog.funcs[68]? = some Go.Proofs.Try.f68 := by kernel_rfl
theorem impl_TlbFlush_1.bd : Go.Proofs.Try.f68.body = some (bodyOf Go.Proofs.Try.f68) := by kernel_rfl
theorem impl_TlbFlush_1.nm : Go.Proofs.Try.f68.name ≠ "runtime.NumGoroutine" := by decide
theorem impl_TlbFlush_1.ok : EntryOK Go.Proofs.Try.prog 68 impl_TlbFlush_1.ent :=
  entry_ok (E := impl_TlbFlush_1.E) (EnvOK.of dok impl_TlbFlush_1.fok) mixed impl_TlbFlush_1.at_ impl_TlbFlush_1.bd impl_TlbFlush_1.nm impl_TlbFlush_1.ls (by intro l hl; simp at hl) impl_TlbFlush_1.eq
/-! ### slices.IndexFunc[[]loop.example/g00038/impl.TlbEntry,loop.example/g00038/impl.TlbEntry] -/
noncomputable def slices_IndexFunc_TlbEntry_v2.E2 : Env := ⟨D, [], [(68, impl_TlbFlush_1.ent)], []⟩
noncomputable def slices_IndexFunc_TlbEntry_v2_l2_step (rec : (List (Int × Int × Int × Int × Bool)) → Int → Int → Int → Int → Option ((Int × Unit) ⊕ (Unit))) (y0 : List (Int × Int × Int × Int × Bool)) (y1 : Int) (y2 : Int) (y3 : Int) (y4 : Int) : Option ((Int × Unit) ⊕ (Unit)) :=
  bif decide (y4 < y3) then
    let e1 : Int × Int × Int × Int × Bool := rd R1 y0 y4
    (impl_TlbFlush_1 e1.1 e1.2.1 e1.2.2.1 e1.2.2.2.1 e1.2.2.2.2 y1 y2).bind fun r2 =>
    bif decide (0 ≤ y4) && decide (y4 < (y0.length : Int)) then
      bif r2.1 then
        some (Sum.inl (y4, ()))
      else
        rec y0 y1 y2 y3 (wrap64 (y4 + 1))
    else none
  else
    some (Sum.inr ())
noncomputable def slices_IndexFunc_TlbEntry_v2_l2 : Nat → (List (Int × Int × Int × Int × Bool)) → Int → Int → Int → Int → Option ((Int × Unit) ⊕ (Unit))
  | 0 => fun _ _ _ _ _ => none
  | n + 1 => slices_IndexFunc_TlbEntry_v2_l2_step (slices_IndexFunc_TlbEntry_v2_l2 n)
noncomputable def slices_IndexFunc_TlbEntry_v2_l2.ent : LEntry := ⟨(.cell (.val .bor (.slice (.pair (.int .i64) (.pair (.int .i64) (.pair (.int .i64) (.pair (.int .i64) (.bool))))))) :: (.clo 68 [[.val .bor (.int .i64)], [.val .bor (.int .i64)]] :: (sk 5 (.cell (.val .bor (.int .i64)) :: (.cell (.val .bor (.int .i64)) :: (sk 10 [])))))), rk 19 [], [], [], [⟨none, sk 4 (.cell (.val .bor (.int .i64)) :: (sk 14 [])), rk 19 [], [], []⟩, ⟨some 0, sk 19 [], rk 19 [], [], []⟩], fun v => slices_IndexFunc_TlbEntry_v2_l2 K0 v.1 v.2.1 v.2.2.1 v.2.2.2.1 v.2.2.2.2.1⟩
theorem slices_IndexFunc_TlbEntry_v2_l2.eq : ∀ rec v, evStep slices_IndexFunc_TlbEntry_v2.E2 (bodyAt 2 Go.Proofs.Try.f61) slices_IndexFunc_TlbEntry_v2_l2.ent.ins slices_IndexFunc_TlbEntry_v2_l2.ent.rts slices_IndexFunc_TlbEntry_v2_l2.ent.hm slices_IndexFunc_TlbEntry_v2_l2.ent.nl slices_IndexFunc_TlbEntry_v2_l2.ent.xs rec v = slices_IndexFunc_TlbEntry_v2_l2_step (fun c0 c1 c2 c3 c4 => rec (c0, c1, c2, c3, c4, ())) v.1 v.2.1 v.2.2.1 v.2.2.2.1 v.2.2.2.2.1 := by intro rec v; kernel_rfl
noncomputable def slices_IndexFunc_TlbEntry_v2.E : Env := ⟨D, [], [(68, impl_TlbFlush_1.ent)], [(2, slices_IndexFunc_TlbEntry_v2_l2.ent)]⟩
noncomputable def slices_IndexFunc_TlbEntry_v2 (a0 : List (Int × Int × Int × Int × Bool)) (a1 : Int) (a2 : Int) : Option (Int × Unit) :=
  (slices_IndexFunc_TlbEntry_v2_l2 K0 a0 a1 a2 (a0.length : Int) 0).bind fun o3 =>
  match o3 with
  | Sum.inl p4 =>
    some (p4.1, ())
  | Sum.inr p5 =>
    some (-1, ())
noncomputable def slices_IndexFunc_TlbEntry_v2.ent : Entry := ⟨[false, false], [.cell (.val .bor (.slice (.pair (.int .i64) (.pair (.int .i64) (.pair (.int .i64) (.pair (.int .i64) (.bool))))))), .clo 68 [[.val .bor (.int .i64)], [.val .bor (.int .i64)]]], [.cell (.val .bor (.int .i64))], [], fun v => slices_IndexFunc_TlbEntry_v2 v.1 v.2.1 v.2.2.1⟩
theorem slices_IndexFunc_TlbEntry_v2.eq : ∀ v, evFn slices_IndexFunc_TlbEntry_v2.E Go.Proofs.Try.f61 slices_IndexFunc_TlbEntry_v2.ent.ptrs slices_IndexFunc_TlbEntry_v2.ent.ins slices_IndexFunc_TlbEntry_v2.ent.rets slices_IndexFunc_TlbEntry_v2.ent.outs v = slices_IndexFunc_TlbEntry_v2.ent.f v := by intro v; kernel_rfl
theorem slices_IndexFunc_TlbEntry_v2.fok : ∀ q ∈ [((68 : Nat), impl_TlbFlush_1.ent)], EntryOK Go.Proofs.Try.prog q.1 q.2 := by
  intro q hq
  simp only [List.mem_cons, List.mem_nil_iff, or_false] at hq
  rcases hq with rfl
  · exact impl_TlbFlush_1.ok
theorem slices_IndexFunc_TlbEntry_v2_l2.it : ∀ n v, iter (evStep slices_IndexFunc_TlbEntry_v2.E2 (bodyAt 2 Go.Proofs.Try.f61) slices_IndexFunc_TlbEntry_v2_l2.ent.ins slices_IndexFunc_TlbEntry_v2_l2.ent.rts slices_IndexFunc_TlbEntry_v2_l2.ent.hm slices_IndexFunc_TlbEntry_v2_l2.ent.nl slices_IndexFunc_TlbEntry_v2_l2.ent.xs) n v = slices_IndexFunc_TlbEntry_v2_l2 n v.1 v.2.1 v.2.2.1 v.2.2.2.1 v.2.2.2.2.1 := by
  intro n
  induction n with
  | zero => intro v; rfl
  | succ n ih =>
    intro v
    show (evStep slices_IndexFunc_TlbEntry_v2.E2 (bodyAt 2 Go.Proofs.Try.f61) slices_IndexFunc_TlbEntry_v2_l2.ent.ins slices_IndexFunc_TlbEntry_v2_l2.ent.rts slices_IndexFunc_TlbEntry_v2_l2.ent.hm slices_IndexFunc_TlbEntry_v2_l2.ent.nl slices_IndexFunc_TlbEntry_v2_l2.ent.xs) (iter (evStep slices_IndexFunc_TlbEntry_v2.E2 (bodyAt 2 Go.Proofs.Try.f61) slices_IndexFunc_TlbEntry_v2_l2.ent.ins slices_IndexFunc_TlbEntry_v2_l2.ent.rts slices_IndexFunc_TlbEntry_v2_l2.ent.hm slices_IndexFunc_TlbEntry_v2_l2.ent.nl slices_IndexFunc_TlbEntry_v2_l2.ent.xs) n) v = _
    rw [slices_IndexFunc_TlbEntry_v2_l2.eq, show (fun c0 c1 c2 c3 c4 => iter (evStep slices_IndexFunc_TlbEntry_v2.E2 (bodyAt 2 Go.Proofs.Try.f61) slices_IndexFunc_TlbEntry_v2_l2.ent.ins slices_IndexFunc_TlbEntry_v2_l2.ent.rts slices_IndexFunc_TlbEntry_v2_l2.ent.hm slices_IndexFunc_TlbEntry_v2_l2.ent.nl slices_IndexFunc_TlbEntry_v2_l2.ent.xs) n (c0, c1, c2, c3, c4, ())) = slices_IndexFunc_TlbEntry_v2_l2 n from by funext c0 c1 c2 c3 c4; exact ih _]
    rfl
theorem slices_IndexFunc_TlbEntry_v2_l2.fr : firstRegion (bodyAt 2 Go.Proofs.Try.f61) = 2 := by kernel_rfl
theorem slices_IndexFunc_TlbEntry_v2_l2.ls : loopsOf (bodyAt 2 Go.Proofs.Try.f61) = [] := by kernel_rfl
theorem slices_IndexFunc_TlbEntry_v2_l2.lok {E : Env} (hpin : slices_IndexFunc_TlbEntry_v2.E2.pin = E.pin) (hfind : find 2 E.loops = some slices_IndexFunc_TlbEntry_v2_l2.ent) : LoopOK Go.Proofs.Try.prog E (bodyAt 2 Go.Proofs.Try.f61) :=
  loop_of (E1 := slices_IndexFunc_TlbEntry_v2.E2) (EnvOK.of dok slices_IndexFunc_TlbEntry_v2.fok) mixed hpin (by rw [slices_IndexFunc_TlbEntry_v2_l2.fr]; exact hfind) slices_IndexFunc_TlbEntry_v2_l2.ls (by intro l hl; simp at hl) (fun v => (slices_IndexFunc_TlbEntry_v2_l2.it K0 v).symm)
theorem slices_IndexFunc_TlbEntry_v2.ls : loopsOf (bodyOf Go.Proofs.Try.f61) = [bodyAt 2 Go.Proofs.Try.f61] := by kernel_rfl
theorem slices_IndexFunc_TlbEntry_v2.at_ : Go.Proofs.Try.prog.funcs[61]? = some Go.Proofs.Try.f61 := by kernel_rfl
theorem slices_IndexFunc_TlbEntry_v2.bd : Go.Proofs.Try.f61.body = some (bodyOf Go.Proofs.Try.f61) := by kernel_rfl
theorem slices_IndexFunc_TlbEntry_v2.nm : Go.Proofs.Try.f61.name ≠ "runtime.NumGoroutine" := by decide
theorem slices_IndexFunc_TlbEntry_v2.ok : EntryOK Go.Proofs.Try.prog 61 slices_IndexFunc_TlbEntry_v2.ent :=
  entry_ok (E := slices_IndexFunc_TlbEntry_v2.E) (EnvOK.of dok slices_IndexFunc_TlbEntry_v2.fok) mixed slices_IndexFunc_TlbEntry_v2.at_ slices_IndexFunc_TlbEntry_v2.bd slices_IndexFunc_TlbEntry_v2.nm slices_IndexFunc_TlbEntry_v2.ls (by intro l hl; simp only [List.mem_singleton] at hl; subst hl; exact slices_IndexFunc_TlbEntry_v2_l2.lok rfl rfl) slices_IndexFunc_TlbEntry_v2.eq
/-! ### slices.DeleteFunc[[]loop.example/g00038/impl.TlbEntry,loop.example/g00038/impl.TlbEntry] -/
noncomputable def slices_DeleteFunc_TlbEntry_v4.E5 : Env := ⟨D, [], [(61, slices_IndexFunc_TlbEntry_v2.ent), (68, impl_TlbFlush_1.ent)], []⟩
noncomputable def slices_DeleteFunc_TlbEntry_v4_l5_step (rec : Int → Int → Int → Int → (List (Int × Int × Int × Int × Bool)) → Option ((Int × List (Int × Int × Int × Int × Bool) × Unit))) (y0 : Int) (y1 : Int) (y2 : Int) (y3 : Int) (y4 : List (Int × Int × Int × Int × Bool)) : Option ((Int × List (Int × Int × Int × Int × Bool) × Unit)) :=
  let b2 : Bool := decide (y3 < (y4.length : Int))
  bif b2 then
    let e3 : Int × Int × Int × Int × Bool := rd R1 y4 y3
    bif decide (0 ≤ y3) && decide (y3 < (y4.length : Int)) then
      (impl_TlbFlush_1 e3.1 e3.2.1 e3.2.2.1 e3.2.2.2.1 e3.2.2.2.2 y0 y1).bind fun r4 =>
      let x6 : Int := (bif !r4.1 then (wrap64 (y2 + 1)) else y2)
      let x7 : Int := (bif !r4.1 then y3 else y3)
      let l17 : List (Int × Int × Int × Int × Bool) := (bif !r4.1 then y4.set y2.toNat e3 else y4)
      bif (!(!r4.1) || (decide (0 ≤ y2) && decide (y2 < (y4.length : Int)))) then
        rec (bif !r4.1 then y0 else y0) (bif !r4.1 then y1 else y1) x6 (wrap64 (x7 + 1)) l17
      else none
    else none
  else
    some (y2, y4, ())
noncomputable def slices_DeleteFunc_TlbEntry_v4_l5 : Nat → Int → Int → Int → Int → (List (Int × Int × Int × Int × Bool)) → Option ((Int × List (Int × Int × Int × Int × Bool) × Unit))
  | 0 => fun _ _ _ _ _ => none
  | n + 1 => slices_DeleteFunc_TlbEntry_v4_l5_step (slices_DeleteFunc_TlbEntry_v4_l5 n)
noncomputable def slices_DeleteFunc_TlbEntry_v4_l5.ent : LEntry := ⟨(.cell (.fix (.view 0 0)) :: (.clo 68 [[.val .bor (.int .i64)], [.val .bor (.int .i64)]] :: (sk 3 (.cell (.val .bor (.int .i64)) :: (.cell (.val .bor (.int .i64)) :: (sk 35 [])))))), ([.val .own (.slice (.pair (.int .i64) (.pair (.int .i64) (.pair (.int .i64) (.pair (.int .i64) (.bool))))))] :: (rk 41 [])), [], [], [⟨some 0, (.cell (.fix (.view 0 0)) :: (sk 4 (.cell (.val .bor (.int .i64)) :: (sk 36 [])))), ([.val .own (.slice (.pair (.int .i64) (.pair (.int .i64) (.pair (.int .i64) (.pair (.int .i64) (.bool))))))] :: (rk 41 [])), [], []⟩], fun v => slices_DeleteFunc_TlbEntry_v4_l5 K0 v.1 v.2.1 v.2.2.1 v.2.2.2.1 v.2.2.2.2.1⟩
theorem slices_DeleteFunc_TlbEntry_v4_l5.eq : ∀ rec v, evStep slices_DeleteFunc_TlbEntry_v4.E5 (bodyAt 5 Go.Proofs.Try.f66) slices_DeleteFunc_TlbEntry_v4_l5.ent.ins slices_DeleteFunc_TlbEntry_v4_l5.ent.rts slices_DeleteFunc_TlbEntry_v4_l5.ent.hm slices_DeleteFunc_TlbEntry_v4_l5.ent.nl slices_DeleteFunc_TlbEntry_v4_l5.ent.xs rec v = slices_DeleteFunc_TlbEntry_v4_l5_step (fun c0 c1 c2 c3 c4 => rec (c0, c1, c2, c3, c4, ())) v.1 v.2.1 v.2.2.1 v.2.2.2.1 v.2.2.2.2.1 := by intro rec v; kernel_rfl
noncomputable def slices_DeleteFunc_TlbEntry_v4.E : Env := ⟨D, [], [(61, slices_IndexFunc_TlbEntry_v2.ent), (68, impl_TlbFlush_1.ent)], [(5, slices_DeleteFunc_TlbEntry_v4_l5.ent)]⟩
noncomputable def slices_DeleteFunc_TlbEntry_v4 (a0 : List (Int × Int × Int × Int × Bool)) (a1 : Int) (a2 : Int) : Option (List (Int × Int × Int × Int × Bool) × Unit) :=
  (slices_IndexFunc_TlbEntry_v2 a0 a1 a2).bind fun r1 =>
  bif (r1.1 == -1) then
    some (a0, ())
  else
    (slices_DeleteFunc_TlbEntry_v4_l5 K0 a1 a2 r1.1 (wrap64 (r1.1 + 1)) a0).bind fun o18 =>
    let l19 : List (Int × Int × Int × Int × Bool) := o18.2.1.take o18.1.toNat ++ List.replicate ((o18.2.1.length : Int) - o18.1).toNat (Ty.dflt R1) ++ o18.2.1.drop (o18.1.toNat + ((o18.2.1.length : Int) - o18.1).toNat)
    bif decide (0 ≤ o18.1) && decide (o18.1 ≤ (o18.2.1.length : Int)) then
      bif decide (0 ≤ o18.1) && decide (o18.1 ≤ (l19.length : Int)) then
        some (l19.take o18.1.toNat, ())
      else none
    else none
noncomputable def slices_DeleteFunc_TlbEntry_v4.ent : Entry := ⟨[false, false], [.cell (.val .own (.slice (.pair (.int .i64) (.pair (.int .i64) (.pair (.int .i64) (.pair (.int .i64) (.bool))))))), .clo 68 [[.val .bor (.int .i64)], [.val .bor (.int .i64)]]], [.cell (.val .own (.slice (.pair (.int .i64) (.pair (.int .i64) (.pair (.int .i64) (.pair (.int .i64) (.bool)))))))], [], fun v => slices_DeleteFunc_TlbEntry_v4 v.1 v.2.1 v.2.2.1⟩
theorem slices_DeleteFunc_TlbEntry_v4.eq : ∀ v, evFn slices_DeleteFunc_TlbEntry_v4.E Go.Proofs.Try.f66 slices_DeleteFunc_TlbEntry_v4.ent.ptrs slices_DeleteFunc_TlbEntry_v4.ent.ins slices_DeleteFunc_TlbEntry_v4.ent.rets slices_DeleteFunc_TlbEntry_v4.ent.outs v = slices_DeleteFunc_TlbEntry_v4.ent.f v := by intro v; kernel_rfl
theorem slices_DeleteFunc_TlbEntry_v4.fok : ∀ q ∈ [((61 : Nat), slices_IndexFunc_TlbEntry_v2.ent), ((68 : Nat), impl_TlbFlush_1.ent)], EntryOK Go.Proofs.Try.prog q.1 q.2 := by
  intro q hq
  simp only [List.mem_cons, List.mem_nil_iff, or_false] at hq
  rcases hq with rfl | rfl
  · exact slices_IndexFunc_TlbEntry_v2.ok
  · exact impl_TlbFlush_1.ok
theorem slices_DeleteFunc_TlbEntry_v4_l5.it : ∀ n v, iter (evStep slices_DeleteFunc_TlbEntry_v4.E5 (bodyAt 5 Go.Proofs.Try.f66) slices_DeleteFunc_TlbEntry_v4_l5.ent.ins slices_DeleteFunc_TlbEntry_v4_l5.ent.rts slices_DeleteFunc_TlbEntry_v4_l5.ent.hm slices_DeleteFunc_TlbEntry_v4_l5.ent.nl slices_DeleteFunc_TlbEntry_v4_l5.ent.xs) n v = slices_DeleteFunc_TlbEntry_v4_l5 n v.1 v.2.1 v.2.2.1 v.2.2.2.1 v.2.2.2.2.1 := by
  intro n
  induction n with
  | zero => intro v; rfl
  | succ n ih =>
    intro v
    show (evStep slices_DeleteFunc_TlbEntry_v4.E5 (bodyAt 5 Go.Proofs.Try.f66) slices_DeleteFunc_TlbEntry_v4_l5.ent.ins slices_DeleteFunc_TlbEntry_v4_l5.ent.rts slices_DeleteFunc_TlbEntry_v4_l5.ent.hm slices_DeleteFunc_TlbEntry_v4_l5.ent.nl slices_DeleteFunc_TlbEntry_v4_l5.ent.xs) (iter (evStep slices_DeleteFunc_TlbEntry_v4.E5 (bodyAt 5 Go.Proofs.Try.f66) slices_DeleteFunc_TlbEntry_v4_l5.ent.ins slices_DeleteFunc_TlbEntry_v4_l5.ent.rts slices_DeleteFunc_TlbEntry_v4_l5.ent.hm slices_DeleteFunc_TlbEntry_v4_l5.ent.nl slices_DeleteFunc_TlbEntry_v4_l5.ent.xs) n) v = _
    rw [slices_DeleteFunc_TlbEntry_v4_l5.eq, show (fun c0 c1 c2 c3 c4 => iter (evStep slices_DeleteFunc_TlbEntry_v4.E5 (bodyAt 5 Go.Proofs.Try.f66) slices_DeleteFunc_TlbEntry_v4_l5.ent.ins slices_DeleteFunc_TlbEntry_v4_l5.ent.rts slices_DeleteFunc_TlbEntry_v4_l5.ent.hm slices_DeleteFunc_TlbEntry_v4_l5.ent.nl slices_DeleteFunc_TlbEntry_v4_l5.ent.xs) n (c0, c1, c2, c3, c4, ())) = slices_DeleteFunc_TlbEntry_v4_l5 n from by funext c0 c1 c2 c3 c4; exact ih _]
    rfl
theorem slices_DeleteFunc_TlbEntry_v4_l5.fr : firstRegion (bodyAt 5 Go.Proofs.Try.f66) = 5 := by kernel_rfl
theorem slices_DeleteFunc_TlbEntry_v4_l5.ls : loopsOf (bodyAt 5 Go.Proofs.Try.f66) = [] := by kernel_rfl
theorem slices_DeleteFunc_TlbEntry_v4_l5.lok {E : Env} (hpin : slices_DeleteFunc_TlbEntry_v4.E5.pin = E.pin) (hfind : find 5 E.loops = some slices_DeleteFunc_TlbEntry_v4_l5.ent) : LoopOK Go.Proofs.Try.prog E (bodyAt 5 Go.Proofs.Try.f66) :=
  loop_of (E1 := slices_DeleteFunc_TlbEntry_v4.E5) (EnvOK.of dok slices_DeleteFunc_TlbEntry_v4.fok) mixed hpin (by rw [slices_DeleteFunc_TlbEntry_v4_l5.fr]; exact hfind) slices_DeleteFunc_TlbEntry_v4_l5.ls (by intro l hl; simp at hl) (fun v => (slices_DeleteFunc_TlbEntry_v4_l5.it K0 v).symm)
theorem slices_DeleteFunc_TlbEntry_v4.ls : loopsOf (bodyOf Go.Proofs.Try.f66) = [bodyAt 5 Go.Proofs.Try.f66] := by kernel_rfl
theorem slices_DeleteFunc_TlbEntry_v4.at_ : Go.Proofs.Try.prog.funcs[66]? = some Go.Proofs.Try.f66 := by kernel_rfl
theorem slices_DeleteFunc_TlbEntry_v4.bd : Go.Proofs.Try.f66.body = some (bodyOf Go.Proofs.Try.f66) := by kernel_rfl
theorem slices_DeleteFunc_TlbEntry_v4.nm : Go.Proofs.Try.f66.name ≠ "runtime.NumGoroutine" := by decide
theorem slices_DeleteFunc_TlbEntry_v4.ok : EntryOK Go.Proofs.Try.prog 66 slices_DeleteFunc_TlbEntry_v4.ent :=
  entry_ok (E := slices_DeleteFunc_TlbEntry_v4.E) (EnvOK.of dok slices_DeleteFunc_TlbEntry_v4.fok) mixed slices_DeleteFunc_TlbEntry_v4.at_ slices_DeleteFunc_TlbEntry_v4.bd slices_DeleteFunc_TlbEntry_v4.nm slices_DeleteFunc_TlbEntry_v4.ls (by intro l hl; simp only [List.mem_singleton] at hl; subst hl; exact slices_DeleteFunc_TlbEntry_v4_l5.lok rfl rfl) slices_DeleteFunc_TlbEntry_v4.eq
/-! ### loop.example/g00038/impl.TlbFlush -/
noncomputable def impl_TlbFlush.E : Env := ⟨D, [], [(24, impl_TlbFault.ent), (67, slices_Clone_TlbEntry.ent), (66, slices_DeleteFunc_TlbEntry_v4.ent)], []⟩
noncomputable def impl_TlbFlush (a0 : List (Int × Int × Int × Int × Bool)) (a1 : Int) (a2 : Int) (a3 : Int) : Option (List (Int × Int × Int × Int × Bool) × Int × Unit) :=
  (impl_TlbFault a0 a1).bind fun r1 =>
  bif (r1.1 != 0) then
    some ([], 0, ())
  else
    (slices_Clone_TlbEntry a0).bind fun r2 =>
    (slices_DeleteFunc_TlbEntry_v4 r2.1 a2 a3).bind fun r3 =>
    some (r3.1, 0, ())
noncomputable def impl_TlbFlush.ent : Entry := ⟨[false, false, false], [.agg [.val .bor (.slice (.pair (.int .i64) (.pair (.int .i64) (.pair (.int .i64) (.pair (.int .i64) (.bool)))))), .val .bor (.int .i64)], .cell (.val .bor (.int .i64)), .cell (.val .bor (.int .i64))], [.agg [.val .own (.slice (.pair (.int .i64) (.pair (.int .i64) (.pair (.int .i64) (.pair (.int .i64) (.bool)))))), .val .bor (.int .i64)]], [], fun v => impl_TlbFlush v.1 v.2.1 v.2.2.1 v.2.2.2.1⟩
theorem impl_TlbFlush.eq : ∀ v, evFn impl_TlbFlush.E Go.Proofs.Try.f17 impl_TlbFlush.ent.ptrs impl_TlbFlush.ent.ins impl_TlbFlush.ent.rets impl_TlbFlush.ent.outs v = impl_TlbFlush.ent.f v := by intro v; kernel_rfl
theorem impl_TlbFlush.fok : ∀ q ∈ [((24 : Nat), impl_TlbFault.ent), ((67 : Nat), slices_Clone_TlbEntry.ent), ((66 : Nat), slices_DeleteFunc_TlbEntry_v4.ent)], EntryOK Go.Proofs.Try.prog q.1 q.2 := by
  intro q hq
  simp only [List.mem_cons, List.mem_nil_iff, or_false] at hq
  rcases hq with rfl | rfl | rfl
  · exact impl_TlbFault.ok
  · exact slices_Clone_TlbEntry.ok
  · exact slices_DeleteFunc_TlbEntry_v4.ok
theorem impl_TlbFlush.ls : loopsOf (bodyOf Go.Proofs.Try.f17) = [] := by kernel_rfl
theorem impl_TlbFlush.at_ : Go.Proofs.Try.prog.funcs[17]? = some Go.Proofs.Try.f17 := by kernel_rfl
theorem impl_TlbFlush.bd : Go.Proofs.Try.f17.body = some (bodyOf Go.Proofs.Try.f17) := by kernel_rfl
theorem impl_TlbFlush.nm : Go.Proofs.Try.f17.name ≠ "runtime.NumGoroutine" := by decide
theorem impl_TlbFlush.ok : EntryOK Go.Proofs.Try.prog 17 impl_TlbFlush.ent :=
  entry_ok (E := impl_TlbFlush.E) (EnvOK.of dok impl_TlbFlush.fok) mixed impl_TlbFlush.at_ impl_TlbFlush.bd impl_TlbFlush.nm impl_TlbFlush.ls (by intro l hl; simp at hl) impl_TlbFlush.eq
/-! ### loop.example/g00038/laws.eqTlbEntry -/
noncomputable def laws_eqTlbEntry.E : Env := ⟨D, [], [], []⟩
noncomputable def laws_eqTlbEntry (a0 : Int) (a1 : Int) (a2 : Int) (a3 : Int) (a4 : Bool) (a5 : Int) (a6 : Int) (a7 : Int) (a8 : Int) (a9 : Bool) : Option (Bool × Unit) :=
  bif (a0 != a5) then
    some (false, ())
  else
  bif (a1 != a6) then
    some (false, ())
  else
  bif (a2 != a7) then
    some (false, ())
  else
  bif (a3 != a8) then
    some (false, ())
  else
  bif !(a4 == a9) then
    some (false, ())
  else
    some (true, ())
noncomputable def laws_eqTlbEntry.ent : Entry := ⟨[false, false], [.agg [.val .bor (.int .i64), .val .bor (.int .i64), .val .bor (.int .i64), .val .bor (.int .i64), .val .bor (.bool)], .agg [.val .bor (.int .i64), .val .bor (.int .i64), .val .bor (.int .i64), .val .bor (.int .i64), .val .bor (.bool)]], [.cell (.val .bor (.bool))], [], fun v => laws_eqTlbEntry v.1 v.2.1 v.2.2.1 v.2.2.2.1 v.2.2.2.2.1 v.2.2.2.2.2.1 v.2.2.2.2.2.2.1 v.2.2.2.2.2.2.2.1 v.2.2.2.2.2.2.2.2.1 v.2.2.2.2.2.2.2.2.2.1⟩
theorem laws_eqTlbEntry.eq : ∀ v, evFn laws_eqTlbEntry.E Go.Proofs.Try.f121 laws_eqTlbEntry.ent.ptrs laws_eqTlbEntry.ent.ins laws_eqTlbEntry.ent.rets laws_eqTlbEntry.ent.outs v = laws_eqTlbEntry.ent.f v := by intro v; kernel_rfl
theorem laws_eqTlbEntry.fok : ∀ q ∈ ([] : List (Nat × Entry)), EntryOK Go.Proofs.Try.prog q.1 q.2 := by intro q hq; simp at hq
theorem laws_eqTlbEntry.ls : loopsOf (bodyOf Go.Proofs.Try.f121) = [] := by kernel_rfl
theorem laws_eqTlbEntry.at_ : Go.Proofs.Try.prog.funcs[121]? = some Go.Proofs.Try.f121 := by kernel_rfl
theorem laws_eqTlbEntry.bd : Go.Proofs.Try.f121.body = some (bodyOf Go.Proofs.Try.f121) := by kernel_rfl
theorem laws_eqTlbEntry.nm : Go.Proofs.Try.f121.name ≠ "runtime.NumGoroutine" := by decide
theorem laws_eqTlbEntry.ok : EntryOK Go.Proofs.Try.prog 121 laws_eqTlbEntry.ent :=
  entry_ok (E := laws_eqTlbEntry.E) (EnvOK.of dok laws_eqTlbEntry.fok) mixed laws_eqTlbEntry.at_ laws_eqTlbEntry.bd laws_eqTlbEntry.nm laws_eqTlbEntry.ls (by intro l hl; simp at hl) laws_eqTlbEntry.eq
/-! ### loop.example/g00038/laws.eqTlbEntryS -/
noncomputable def laws_eqTlbEntryS.E4 : Env := ⟨D, [], [(121, laws_eqTlbEntry.ent)], []⟩
noncomputable def laws_eqTlbEntryS_l4_step (rec : (List (Int × Int × Int × Int × Bool)) → (List (Int × Int × Int × Int × Bool)) → Int → Option ((Bool × Unit) ⊕ (Unit))) (y0 : List (Int × Int × Int × Int × Bool)) (y1 : List (Int × Int × Int × Int × Bool)) (y2 : Int) : Option ((Bool × Unit) ⊕ (Unit)) :=
  let b2 : Bool := decide (y2 < (y0.length : Int))
  bif b2 then
    let e3 : Int × Int × Int × Int × Bool := rd R1 y0 y2
    let e4 : Int × Int × Int × Int × Bool := rd R1 y1 y2
    (laws_eqTlbEntry e3.1 e3.2.1 e3.2.2.1 e3.2.2.2.1 e3.2.2.2.2 e4.1 e4.2.1 e4.2.2.1 e4.2.2.2.1 e4.2.2.2.2).bind fun r5 =>
    bif (decide (0 ≤ y2) && decide (y2 < (y0.length : Int))) && (decide (0 ≤ y2) && decide (y2 < (y1.length : Int))) then
      bif !r5.1 then
        some (Sum.inl (false, ()))
      else
        rec y0 y1 (wrap64 (y2 + 1))
    else none
  else
    some (Sum.inr ())
noncomputable def laws_eqTlbEntryS_l4 : Nat → (List (Int × Int × Int × Int × Bool)) → (List (Int × Int × Int × Int × Bool)) → Int → Option ((Bool × Unit) ⊕ (Unit))
  | 0 => fun _ _ _ => none
  | n + 1 => laws_eqTlbEntryS_l4_step (laws_eqTlbEntryS_l4 n)
noncomputable def laws_eqTlbEntryS_l4.ent : LEntry := ⟨(.cell (.val .bor (.slice (.pair (.int .i64) (.pair (.int .i64) (.pair (.int .i64) (.pair (.int .i64) (.bool))))))) :: (.cell (.val .bor (.slice (.pair (.int .i64) (.pair (.int .i64) (.pair (.int .i64) (.pair (.int .i64) (.bool))))))) :: (sk 3 (.cell (.val .bor (.int .i64)) :: (sk 21 []))))), rk 27 [], [], [], [⟨none, sk 4 (.cell (.val .bor (.bool)) :: (sk 22 [])), rk 27 [], [], []⟩, ⟨some 0, sk 27 [], rk 27 [], [], []⟩], fun v => laws_eqTlbEntryS_l4 K0 v.1 v.2.1 v.2.2.1⟩
theorem laws_eqTlbEntryS_l4.eq : ∀ rec v, evStep laws_eqTlbEntryS.E4 (bodyAt 4 Go.Proofs.Try.f65) laws_eqTlbEntryS_l4.ent.ins laws_eqTlbEntryS_l4.ent.rts laws_eqTlbEntryS_l4.ent.hm laws_eqTlbEntryS_l4.ent.nl laws_eqTlbEntryS_l4.ent.xs rec v = laws_eqTlbEntryS_l4_step (fun c0 c1 c2 => rec (c0, c1, c2, ())) v.1 v.2.1 v.2.2.1 := by intro rec v; kernel_rfl
noncomputable def laws_eqTlbEntryS.E : Env := ⟨D, [], [(121, laws_eqTlbEntry.ent)], [(4, laws_eqTlbEntryS_l4.ent)]⟩
noncomputable def laws_eqTlbEntryS (a0 : List (Int × Int × Int × Int × Bool)) (a1 : List (Int × Int × Int × Int × Bool)) : Option (Bool × Unit) :=
  let b1 : Bool := ((a0.length : Int) != (a1.length : Int))
  bif b1 then
    some (false, ())
  else
    (laws_eqTlbEntryS_l4 K0 a0 a1 0).bind fun o6 =>
    match o6 with
    | Sum.inl p7 =>
      some (p7.1, ())
    | Sum.inr p8 =>
      some (true, ())
noncomputable def laws_eqTlbEntryS.ent : Entry := ⟨[false, false], [.cell (.val .bor (.slice (.pair (.int .i64) (.pair (.int .i64) (.pair (.int .i64) (.pair (.int .i64) (.bool))))))), .cell (.val .bor (.slice (.pair (.int .i64) (.pair (.int .i64) (.pair (.int .i64) (.pair (.int .i64) (.bool)))))))], [.cell (.val .bor (.bool))], [], fun v => laws_eqTlbEntryS v.1 v.2.1⟩
theorem laws_eqTlbEntryS.eq : ∀ v, evFn laws_eqTlbEntryS.E Go.Proofs.Try.f65 laws_eqTlbEntryS.ent.ptrs laws_eqTlbEntryS.ent.ins laws_eqTlbEntryS.ent.rets laws_eqTlbEntryS.ent.outs v = laws_eqTlbEntryS.ent.f v := by intro v; kernel_rfl
theorem laws_eqTlbEntryS.fok : ∀ q ∈ [((121 : Nat), laws_eqTlbEntry.ent)], EntryOK Go.Proofs.Try.prog q.1 q.2 := by
  intro q hq
  simp only [List.mem_cons, List.mem_nil_iff, or_false] at hq
  rcases hq with rfl
  · exact laws_eqTlbEntry.ok
theorem laws_eqTlbEntryS_l4.it : ∀ n v, iter (evStep laws_eqTlbEntryS.E4 (bodyAt 4 Go.Proofs.Try.f65) laws_eqTlbEntryS_l4.ent.ins laws_eqTlbEntryS_l4.ent.rts laws_eqTlbEntryS_l4.ent.hm laws_eqTlbEntryS_l4.ent.nl laws_eqTlbEntryS_l4.ent.xs) n v = laws_eqTlbEntryS_l4 n v.1 v.2.1 v.2.2.1 := by
  intro n
  induction n with
  | zero => intro v; rfl
  | succ n ih =>
    intro v
    show (evStep laws_eqTlbEntryS.E4 (bodyAt 4 Go.Proofs.Try.f65) laws_eqTlbEntryS_l4.ent.ins laws_eqTlbEntryS_l4.ent.rts laws_eqTlbEntryS_l4.ent.hm laws_eqTlbEntryS_l4.ent.nl laws_eqTlbEntryS_l4.ent.xs) (iter (evStep laws_eqTlbEntryS.E4 (bodyAt 4 Go.Proofs.Try.f65) laws_eqTlbEntryS_l4.ent.ins laws_eqTlbEntryS_l4.ent.rts laws_eqTlbEntryS_l4.ent.hm laws_eqTlbEntryS_l4.ent.nl laws_eqTlbEntryS_l4.ent.xs) n) v = _
    rw [laws_eqTlbEntryS_l4.eq, show (fun c0 c1 c2 => iter (evStep laws_eqTlbEntryS.E4 (bodyAt 4 Go.Proofs.Try.f65) laws_eqTlbEntryS_l4.ent.ins laws_eqTlbEntryS_l4.ent.rts laws_eqTlbEntryS_l4.ent.hm laws_eqTlbEntryS_l4.ent.nl laws_eqTlbEntryS_l4.ent.xs) n (c0, c1, c2, ())) = laws_eqTlbEntryS_l4 n from by funext c0 c1 c2; exact ih _]
    rfl
theorem laws_eqTlbEntryS_l4.fr : firstRegion (bodyAt 4 Go.Proofs.Try.f65) = 4 := by kernel_rfl
theorem laws_eqTlbEntryS_l4.ls : loopsOf (bodyAt 4 Go.Proofs.Try.f65) = [] := by kernel_rfl
theorem laws_eqTlbEntryS_l4.lok {E : Env} (hpin : laws_eqTlbEntryS.E4.pin = E.pin) (hfind : find 4 E.loops = some laws_eqTlbEntryS_l4.ent) : LoopOK Go.Proofs.Try.prog E (bodyAt 4 Go.Proofs.Try.f65) :=
  loop_of (E1 := laws_eqTlbEntryS.E4) (EnvOK.of dok laws_eqTlbEntryS.fok) mixed hpin (by rw [laws_eqTlbEntryS_l4.fr]; exact hfind) laws_eqTlbEntryS_l4.ls (by intro l hl; simp at hl) (fun v => (laws_eqTlbEntryS_l4.it K0 v).symm)
theorem laws_eqTlbEntryS.ls : loopsOf (bodyOf Go.Proofs.Try.f65) = [bodyAt 4 Go.Proofs.Try.f65] := by kernel_rfl
theorem laws_eqTlbEntryS.at_ : Go.Proofs.Try.prog.funcs[65]? = some Go.Proofs.Try.f65 := by kernel_rfl
theorem laws_eqTlbEntryS.bd : Go.Proofs.Try.f65.body = some (bodyOf Go.Proofs.Try.f65) := by kernel_rfl
theorem laws_eqTlbEntryS.nm : Go.Proofs.Try.f65.name ≠ "runtime.NumGoroutine" := by decide
theorem laws_eqTlbEntryS.ok : EntryOK Go.Proofs.Try.prog 65 laws_eqTlbEntryS.ent :=
  entry_ok (E := laws_eqTlbEntryS.E) (EnvOK.of dok laws_eqTlbEntryS.fok) mixed laws_eqTlbEntryS.at_ laws_eqTlbEntryS.bd laws_eqTlbEntryS.nm laws_eqTlbEntryS.ls (by intro l hl; simp only [List.mem_singleton] at hl; subst hl; exact laws_eqTlbEntryS_l4.lok rfl rfl) laws_eqTlbEntryS.eq
/-! ### loop.example/g00038/laws.eqTlb -/
noncomputable def laws_eqTlb.E : Env := ⟨D, [], [(65, laws_eqTlbEntryS.ent)], []⟩
noncomputable def laws_eqTlb (a0 : List (Int × Int × Int × Int × Bool)) (a1 : Int) (a2 : List (Int × Int × Int × Int × Bool)) (a3 : Int) : Option (Bool × Unit) :=
  (laws_eqTlbEntryS a0 a2).bind fun r1 =>
  bif !r1.1 then
    some (false, ())
  else
  bif (a1 != a3) then
    some (false, ())
  else
    some (true, ())
noncomputable def laws_eqTlb.ent : Entry := ⟨[false, false], [.agg [.val .bor (.slice (.pair (.int .i64) (.pair (.int .i64) (.pair (.int .i64) (.pair (.int .i64) (.bool)))))), .val .bor (.int .i64)], .agg [.val .bor (.slice (.pair (.int .i64) (.pair (.int .i64) (.pair (.int .i64) (.pair (.int .i64) (.bool)))))), .val .bor (.int .i64)]], [.cell (.val .bor (.bool))], [], fun v => laws_eqTlb v.1 v.2.1 v.2.2.1 v.2.2.2.1⟩
theorem laws_eqTlb.eq : ∀ v, evFn laws_eqTlb.E Go.Proofs.Try.f15 laws_eqTlb.ent.ptrs laws_eqTlb.ent.ins laws_eqTlb.ent.rets laws_eqTlb.ent.outs v = laws_eqTlb.ent.f v := by intro v; kernel_rfl
theorem laws_eqTlb.fok : ∀ q ∈ [((65 : Nat), laws_eqTlbEntryS.ent)], EntryOK Go.Proofs.Try.prog q.1 q.2 := by
  intro q hq
  simp only [List.mem_cons, List.mem_nil_iff, or_false] at hq
  rcases hq with rfl
  · exact laws_eqTlbEntryS.ok
theorem laws_eqTlb.ls : loopsOf (bodyOf Go.Proofs.Try.f15) = [] := by kernel_rfl
theorem laws_eqTlb.at_ : Go.Proofs.Try.prog.funcs[15]? = some Go.Proofs.Try.f15 := by kernel_rfl
theorem laws_eqTlb.bd : Go.Proofs.Try.f15.body = some (bodyOf Go.Proofs.Try.f15) := by kernel_rfl
theorem laws_eqTlb.nm : Go.Proofs.Try.f15.name ≠ "runtime.NumGoroutine" := by decide
theorem laws_eqTlb.ok : EntryOK Go.Proofs.Try.prog 15 laws_eqTlb.ent :=
  entry_ok (E := laws_eqTlb.E) (EnvOK.of dok laws_eqTlb.fok) mixed laws_eqTlb.at_ laws_eqTlb.bd laws_eqTlb.nm laws_eqTlb.ls (by intro l hl; simp at hl) laws_eqTlb.eq
/-! ### loop.example/g00038/laws.markTlbEntryS -/
noncomputable def laws_markTlbEntryS_v2.E2 : Env := ⟨D, [0], [], []⟩
noncomputable def laws_markTlbEntryS_v2_l2_step (rec : Int → Int → (List (Int × Int × Int × Int × Bool)) → Option ((Int × List (Int × Int × Int × Int × Bool) × Unit))) (y0 : Int) (y1 : Int) (y2 : List (Int × Int × Int × Int × Bool)) : Option ((Int × List (Int × Int × Int × Int × Bool) × Unit)) :=
  let b1 : Bool := decide (y1 < (y2.length : Int))
  bif b1 then
    let e2 : Int × Int × Int × Int × Bool := rd R1 y2 y1
    let l3 : List (Int × Int × Int × Int × Bool) := y2.set y1.toNat (y0, e2.2)
    bif decide (0 ≤ y1) && decide (y1 < (y2.length : Int)) then
      let e4 : Int × Int × Int × Int × Bool := rd R1 l3 y1
      let l5 : List (Int × Int × Int × Int × Bool) := l3.set y1.toNat (e4.1, (wrap64 (y0 + 1)), e4.2.2)
      bif decide (0 ≤ y1) && decide (y1 < (l3.length : Int)) then
        let x6 : Int := (wrap64 ((wrap64 (y0 + 1)) + 1))
        let e7 : Int × Int × Int × Int × Bool := rd R1 l5 y1
        let l8 : List (Int × Int × Int × Int × Bool) := l5.set y1.toNat (e7.1, e7.2.1, x6, e7.2.2.2)
        bif decide (0 ≤ y1) && decide (y1 < (l5.length : Int)) then
          let e9 : Int × Int × Int × Int × Bool := rd R1 l8 y1
          let l10 : List (Int × Int × Int × Int × Bool) := l8.set y1.toNat (e9.1, e9.2.1, e9.2.2.1, (wrap64 (x6 + 1)), e9.2.2.2.2)
          bif decide (0 ≤ y1) && decide (y1 < (l8.length : Int)) then
            let x11 : Int := (wrap64 ((wrap64 (x6 + 1)) + 1))
            let e12 : Int × Int × Int × Int × Bool := rd R1 l10 y1
            let l13 : List (Int × Int × Int × Int × Bool) := l10.set y1.toNat (e12.1, e12.2.1, e12.2.2.1, e12.2.2.2.1, ((Int.tmod x11 3) == 0))
            bif (!((3 : Int) == 0)) && (decide (0 ≤ y1) && decide (y1 < (l10.length : Int))) then
              rec (wrap64 (x11 + 1)) (wrap64 (y1 + 1)) l13
            else none
          else none
        else none
      else none
    else none
  else
    some (y0, y2, ())
noncomputable def laws_markTlbEntryS_v2_l2 : Nat → Int → Int → (List (Int × Int × Int × Int × Bool)) → Option ((Int × List (Int × Int × Int × Int × Bool) × Unit))
  | 0 => fun _ _ _ => none
  | n + 1 => laws_markTlbEntryS_v2_l2_step (laws_markTlbEntryS_v2_l2 n)
noncomputable def laws_markTlbEntryS_v2_l2.ent : LEntry := ⟨(.cell (.fix (.view 0 0)) :: (.cell (.val .bor (.int .i64)) :: (sk 3 (.cell (.val .bor (.int .i64)) :: (sk 44 []))))), ([.val .lent (.slice (.pair (.int .i64) (.pair (.int .i64) (.pair (.int .i64) (.pair (.int .i64) (.bool))))))] :: (rk 49 [])), [], [], [⟨some 0, (.cell (.fix (.view 0 0)) :: (.cell (.val .bor (.int .i64)) :: (sk 48 []))), ([.val .lent (.slice (.pair (.int .i64) (.pair (.int .i64) (.pair (.int .i64) (.pair (.int .i64) (.bool))))))] :: (rk 49 [])), [], []⟩], fun v => laws_markTlbEntryS_v2_l2 K0 v.1 v.2.1 v.2.2.1⟩
theorem laws_markTlbEntryS_v2_l2.eq : ∀ rec v, evStep laws_markTlbEntryS_v2.E2 (bodyAt 2 Go.Proofs.Try.f69) laws_markTlbEntryS_v2_l2.ent.ins laws_markTlbEntryS_v2_l2.ent.rts laws_markTlbEntryS_v2_l2.ent.hm laws_markTlbEntryS_v2_l2.ent.nl laws_markTlbEntryS_v2_l2.ent.xs rec v = laws_markTlbEntryS_v2_l2_step (fun c0 c1 c2 => rec (c0, c1, c2, ())) v.1 v.2.1 v.2.2.1 := by intro rec v; kernel_rfl
noncomputable def laws_markTlbEntryS_v2.E : Env := ⟨D, [0], [], [(2, laws_markTlbEntryS_v2_l2.ent)]⟩
noncomputable def laws_markTlbEntryS_v2 (a0 : List (Int × Int × Int × Int × Bool)) (a1 : Int) : Option (Int × List (Int × Int × Int × Int × Bool) × Unit) :=
  (laws_markTlbEntryS_v2_l2 K0 a1 0 a0).bind fun o14 =>
  some (o14.1, o14.2.1, ())
noncomputable def laws_markTlbEntryS_v2.ent : Entry := ⟨[false, false], [.cell (.val .lent (.slice (.pair (.int .i64) (.pair (.int .i64) (.pair (.int .i64) (.pair (.int .i64) (.bool))))))), .cell (.val .bor (.int .i64))], [.cell (.val .bor (.int .i64))], [.cell (.val .lent (.slice (.pair (.int .i64) (.pair (.int .i64) (.pair (.int .i64) (.pair (.int .i64) (.bool)))))))], fun v => laws_markTlbEntryS_v2 v.1 v.2.1⟩
theorem laws_markTlbEntryS_v2.eq : ∀ v, evFn laws_markTlbEntryS_v2.E Go.Proofs.Try.f69 laws_markTlbEntryS_v2.ent.ptrs laws_markTlbEntryS_v2.ent.ins laws_markTlbEntryS_v2.ent.rets laws_markTlbEntryS_v2.ent.outs v = laws_markTlbEntryS_v2.ent.f v := by intro v; kernel_rfl
theorem laws_markTlbEntryS_v2.fok : ∀ q ∈ ([] : List (Nat × Entry)), EntryOK Go.Proofs.Try.prog q.1 q.2 := by intro q hq; simp at hq
theorem laws_markTlbEntryS_v2_l2.it : ∀ n v, iter (evStep laws_markTlbEntryS_v2.E2 (bodyAt 2 Go.Proofs.Try.f69) laws_markTlbEntryS_v2_l2.ent.ins laws_markTlbEntryS_v2_l2.ent.rts laws_markTlbEntryS_v2_l2.ent.hm laws_markTlbEntryS_v2_l2.ent.nl laws_markTlbEntryS_v2_l2.ent.xs) n v = laws_markTlbEntryS_v2_l2 n v.1 v.2.1 v.2.2.1 := by
  intro n
  induction n with
  | zero => intro v; rfl
  | succ n ih =>
    intro v
    show (evStep laws_markTlbEntryS_v2.E2 (bodyAt 2 Go.Proofs.Try.f69) laws_markTlbEntryS_v2_l2.ent.ins laws_markTlbEntryS_v2_l2.ent.rts laws_markTlbEntryS_v2_l2.ent.hm laws_markTlbEntryS_v2_l2.ent.nl laws_markTlbEntryS_v2_l2.ent.xs) (iter (evStep laws_markTlbEntryS_v2.E2 (bodyAt 2 Go.Proofs.Try.f69) laws_markTlbEntryS_v2_l2.ent.ins laws_markTlbEntryS_v2_l2.ent.rts laws_markTlbEntryS_v2_l2.ent.hm laws_markTlbEntryS_v2_l2.ent.nl laws_markTlbEntryS_v2_l2.ent.xs) n) v = _
    rw [laws_markTlbEntryS_v2_l2.eq, show (fun c0 c1 c2 => iter (evStep laws_markTlbEntryS_v2.E2 (bodyAt 2 Go.Proofs.Try.f69) laws_markTlbEntryS_v2_l2.ent.ins laws_markTlbEntryS_v2_l2.ent.rts laws_markTlbEntryS_v2_l2.ent.hm laws_markTlbEntryS_v2_l2.ent.nl laws_markTlbEntryS_v2_l2.ent.xs) n (c0, c1, c2, ())) = laws_markTlbEntryS_v2_l2 n from by funext c0 c1 c2; exact ih _]
    rfl
theorem laws_markTlbEntryS_v2_l2.fr : firstRegion (bodyAt 2 Go.Proofs.Try.f69) = 2 := by kernel_rfl
theorem laws_markTlbEntryS_v2_l2.ls : loopsOf (bodyAt 2 Go.Proofs.Try.f69) = [] := by kernel_rfl
theorem laws_markTlbEntryS_v2_l2.lok {E : Env} (hpin : laws_markTlbEntryS_v2.E2.pin = E.pin) (hfind : find 2 E.loops = some laws_markTlbEntryS_v2_l2.ent) : LoopOK Go.Proofs.Try.prog E (bodyAt 2 Go.Proofs.Try.f69) :=
  loop_of (E1 := laws_markTlbEntryS_v2.E2) (EnvOK.of dok laws_markTlbEntryS_v2.fok) mixed hpin (by rw [laws_markTlbEntryS_v2_l2.fr]; exact hfind) laws_markTlbEntryS_v2_l2.ls (by intro l hl; simp at hl) (fun v => (laws_markTlbEntryS_v2_l2.it K0 v).symm)
theorem laws_markTlbEntryS_v2.ls : loopsOf (bodyOf Go.Proofs.Try.f69) = [bodyAt 2 Go.Proofs.Try.f69] := by kernel_rfl
theorem laws_markTlbEntryS_v2.at_ : Go.Proofs.Try.prog.funcs[69]? = some Go.Proofs.Try.f69 := by kernel_rfl
theorem laws_markTlbEntryS_v2.bd : Go.Proofs.Try.f69.body = some (bodyOf Go.Proofs.Try.f69) := by kernel_rfl
theorem laws_markTlbEntryS_v2.nm : Go.Proofs.Try.f69.name ≠ "runtime.NumGoroutine" := by decide
theorem laws_markTlbEntryS_v2.ok : EntryOK Go.Proofs.Try.prog 69 laws_markTlbEntryS_v2.ent :=
  entry_ok (E := laws_markTlbEntryS_v2.E) (EnvOK.of dok laws_markTlbEntryS_v2.fok) mixed laws_markTlbEntryS_v2.at_ laws_markTlbEntryS_v2.bd laws_markTlbEntryS_v2.nm laws_markTlbEntryS_v2.ls (by intro l hl; simp only [List.mem_singleton] at hl; subst hl; exact laws_markTlbEntryS_v2_l2.lok rfl rfl) laws_markTlbEntryS_v2.eq
/-! ### loop.example/g00038/laws.markTlb -/
noncomputable def laws_markTlb_v2.E : Env := ⟨D, [0], [(69, laws_markTlbEntryS_v2.ent)], []⟩
noncomputable def laws_markTlb_v2 (a0 : List (Int × Int × Int × Int × Bool)) (a1 : Int) (a2 : Int) : Option (Int × List (Int × Int × Int × Int × Bool) × Unit) :=
  (laws_markTlbEntryS_v2 a0 a2).bind fun r1 =>
  some (r1.1, r1.2.1, ())
noncomputable def laws_markTlb_v2.ent : Entry := ⟨[false, false], [.agg [.val .lent (.slice (.pair (.int .i64) (.pair (.int .i64) (.pair (.int .i64) (.pair (.int .i64) (.bool)))))), .val .bor (.int .i64)], .cell (.val .bor (.int .i64))], [.cell (.val .bor (.int .i64))], [.cell (.val .lent (.slice (.pair (.int .i64) (.pair (.int .i64) (.pair (.int .i64) (.pair (.int .i64) (.bool)))))))], fun v => laws_markTlb_v2 v.1 v.2.1 v.2.2.1⟩
theorem laws_markTlb_v2.eq : ∀ v, evFn laws_markTlb_v2.E Go.Proofs.Try.f18 laws_markTlb_v2.ent.ptrs laws_markTlb_v2.ent.ins laws_markTlb_v2.ent.rets laws_markTlb_v2.ent.outs v = laws_markTlb_v2.ent.f v := by intro v; kernel_rfl
theorem laws_markTlb_v2.fok : ∀ q ∈ [((69 : Nat), laws_markTlbEntryS_v2.ent)], EntryOK Go.Proofs.Try.prog q.1 q.2 := by
  intro q hq
  simp only [List.mem_cons, List.mem_nil_iff, or_false] at hq
  rcases hq with rfl
  · exact laws_markTlbEntryS_v2.ok
theorem laws_markTlb_v2.ls : loopsOf (bodyOf Go.Proofs.Try.f18) = [] := by kernel_rfl
theorem laws_markTlb_v2.at_ : Go.Proofs.Try.prog.funcs[18]? = some Go.Proofs.Try.f18 := by kernel_rfl
theorem laws_markTlb_v2.bd : Go.Proofs.Try.f18.body = some (bodyOf Go.Proofs.Try.f18) := by kernel_rfl
theorem laws_markTlb_v2.nm : Go.Proofs.Try.f18.name ≠ "runtime.NumGoroutine" := by decide
theorem laws_markTlb_v2.ok : EntryOK Go.Proofs.Try.prog 18 laws_markTlb_v2.ent :=
  entry_ok (E := laws_markTlb_v2.E) (EnvOK.of dok laws_markTlb_v2.fok) mixed laws_markTlb_v2.at_ laws_markTlb_v2.bd laws_markTlb_v2.nm laws_markTlb_v2.ls (by intro l hl; simp at hl) laws_markTlb_v2.eq
/-! ### loop.example/g00038/laws.heldTlbEntryS -/
noncomputable def laws_heldTlbEntryS.E2 : Env := ⟨D, [], [], []⟩
noncomputable def laws_heldTlbEntryS_l2_step (rec : (List (Int × Int × Int × Int × Bool)) → Int → Int → Option ((Int × Unit) ⊕ (Int × Unit))) (y0 : List (Int × Int × Int × Int × Bool)) (y1 : Int) (y2 : Int) : Option ((Int × Unit) ⊕ (Int × Unit)) :=
  let b1 : Bool := decide (y2 < (y0.length : Int))
  bif b1 then
    let e2 : Int × Int × Int × Int × Bool := rd R1 y0 y2
    bif decide (0 ≤ y2) && decide (y2 < (y0.length : Int)) then
      bif (e2.1 != y1) then
        some (Sum.inl (-1, ()))
      else
        let b3 : Bool := (e2.2.1 != (wrap64 (y1 + 1)))
        bif decide (0 ≤ y2) && decide (y2 < (y0.length : Int)) then
          bif b3 then
            some (Sum.inl (-1, ()))
          else
            let x4 : Int := (wrap64 ((wrap64 (y1 + 1)) + 1))
            bif decide (0 ≤ y2) && decide (y2 < (y0.length : Int)) then
              bif (e2.2.2.1 != x4) then
                some (Sum.inl (-1, ()))
              else
                let b5 : Bool := (e2.2.2.2.1 != (wrap64 (x4 + 1)))
                bif decide (0 ≤ y2) && decide (y2 < (y0.length : Int)) then
                  bif b5 then
                    some (Sum.inl (-1, ()))
                  else
                    let x6 : Int := (wrap64 ((wrap64 (x4 + 1)) + 1))
                    bif (decide (0 ≤ y2) && decide (y2 < (y0.length : Int))) && (!((3 : Int) == 0)) then
                      bif !(e2.2.2.2.2 == ((Int.tmod x6 3) == 0)) then
                        some (Sum.inl (-1, ()))
                      else
                        rec y0 (wrap64 (x6 + 1)) (wrap64 (y2 + 1))
                    else none
                else none
            else none
        else none
    else none
  else
    some (Sum.inr (y1, ()))
noncomputable def laws_heldTlbEntryS_l2 : Nat → (List (Int × Int × Int × Int × Bool)) → Int → Int → Option ((Int × Unit) ⊕ (Int × Unit))
  | 0 => fun _ _ _ => none
  | n + 1 => laws_heldTlbEntryS_l2_step (laws_heldTlbEntryS_l2 n)
noncomputable def laws_heldTlbEntryS_l2.ent : LEntry := ⟨(.cell (.val .bor (.slice (.pair (.int .i64) (.pair (.int .i64) (.pair (.int .i64) (.pair (.int .i64) (.bool))))))) :: (.cell (.val .bor (.int .i64)) :: (sk 3 (.cell (.val .bor (.int .i64)) :: (sk 54 []))))), rk 60 [], [], [], [⟨none, sk 4 (.cell (.val .bor (.int .i64)) :: (sk 55 [])), rk 60 [], [], []⟩, ⟨some 0, sk 1 (.cell (.val .bor (.int .i64)) :: (sk 58 [])), rk 60 [], [], []⟩], fun v => laws_heldTlbEntryS_l2 K0 v.1 v.2.1 v.2.2.1⟩
theorem laws_heldTlbEntryS_l2.eq : ∀ rec v, evStep laws_heldTlbEntryS.E2 (bodyAt 2 Go.Proofs.Try.f70) laws_heldTlbEntryS_l2.ent.ins laws_heldTlbEntryS_l2.ent.rts laws_heldTlbEntryS_l2.ent.hm laws_heldTlbEntryS_l2.ent.nl laws_heldTlbEntryS_l2.ent.xs rec v = laws_heldTlbEntryS_l2_step (fun c0 c1 c2 => rec (c0, c1, c2, ())) v.1 v.2.1 v.2.2.1 := by intro rec v; kernel_rfl
noncomputable def laws_heldTlbEntryS.E : Env := ⟨D, [], [], [(2, laws_heldTlbEntryS_l2.ent)]⟩
noncomputable def laws_heldTlbEntryS (a0 : List (Int × Int × Int × Int × Bool)) (a1 : Int) : Option (Int × Unit) :=
  (laws_heldTlbEntryS_l2 K0 a0 a1 0).bind fun o7 =>
  match o7 with
  | Sum.inl p8 =>
    some (p8.1, ())
  | Sum.inr p9 =>
    some (p9.1, ())
noncomputable def laws_heldTlbEntryS.ent : Entry := ⟨[false, false], [.cell (.val .bor (.slice (.pair (.int .i64) (.pair (.int .i64) (.pair (.int .i64) (.pair (.int .i64) (.bool))))))), .cell (.val .bor (.int .i64))], [.cell (.val .bor (.int .i64))], [], fun v => laws_heldTlbEntryS v.1 v.2.1⟩
theorem laws_heldTlbEntryS.eq : ∀ v, evFn laws_heldTlbEntryS.E Go.Proofs.Try.f70 laws_heldTlbEntryS.ent.ptrs laws_heldTlbEntryS.ent.ins laws_heldTlbEntryS.ent.rets laws_heldTlbEntryS.ent.outs v = laws_heldTlbEntryS.ent.f v := by intro v; kernel_rfl
theorem laws_heldTlbEntryS.fok : ∀ q ∈ ([] : List (Nat × Entry)), EntryOK Go.Proofs.Try.prog q.1 q.2 := by intro q hq; simp at hq
theorem laws_heldTlbEntryS_l2.it : ∀ n v, iter (evStep laws_heldTlbEntryS.E2 (bodyAt 2 Go.Proofs.Try.f70) laws_heldTlbEntryS_l2.ent.ins laws_heldTlbEntryS_l2.ent.rts laws_heldTlbEntryS_l2.ent.hm laws_heldTlbEntryS_l2.ent.nl laws_heldTlbEntryS_l2.ent.xs) n v = laws_heldTlbEntryS_l2 n v.1 v.2.1 v.2.2.1 := by
  intro n
  induction n with
  | zero => intro v; rfl
  | succ n ih =>
    intro v
    show (evStep laws_heldTlbEntryS.E2 (bodyAt 2 Go.Proofs.Try.f70) laws_heldTlbEntryS_l2.ent.ins laws_heldTlbEntryS_l2.ent.rts laws_heldTlbEntryS_l2.ent.hm laws_heldTlbEntryS_l2.ent.nl laws_heldTlbEntryS_l2.ent.xs) (iter (evStep laws_heldTlbEntryS.E2 (bodyAt 2 Go.Proofs.Try.f70) laws_heldTlbEntryS_l2.ent.ins laws_heldTlbEntryS_l2.ent.rts laws_heldTlbEntryS_l2.ent.hm laws_heldTlbEntryS_l2.ent.nl laws_heldTlbEntryS_l2.ent.xs) n) v = _
    rw [laws_heldTlbEntryS_l2.eq, show (fun c0 c1 c2 => iter (evStep laws_heldTlbEntryS.E2 (bodyAt 2 Go.Proofs.Try.f70) laws_heldTlbEntryS_l2.ent.ins laws_heldTlbEntryS_l2.ent.rts laws_heldTlbEntryS_l2.ent.hm laws_heldTlbEntryS_l2.ent.nl laws_heldTlbEntryS_l2.ent.xs) n (c0, c1, c2, ())) = laws_heldTlbEntryS_l2 n from by funext c0 c1 c2; exact ih _]
    rfl
theorem laws_heldTlbEntryS_l2.fr : firstRegion (bodyAt 2 Go.Proofs.Try.f70) = 2 := by kernel_rfl
theorem laws_heldTlbEntryS_l2.ls : loopsOf (bodyAt 2 Go.Proofs.Try.f70) = [] := by kernel_rfl
theorem laws_heldTlbEntryS_l2.lok {E : Env} (hpin : laws_heldTlbEntryS.E2.pin = E.pin) (hfind : find 2 E.loops = some laws_heldTlbEntryS_l2.ent) : LoopOK Go.Proofs.Try.prog E (bodyAt 2 Go.Proofs.Try.f70) :=
  loop_of (E1 := laws_heldTlbEntryS.E2) (EnvOK.of dok laws_heldTlbEntryS.fok) mixed hpin (by rw [laws_heldTlbEntryS_l2.fr]; exact hfind) laws_heldTlbEntryS_l2.ls (by intro l hl; simp at hl) (fun v => (laws_heldTlbEntryS_l2.it K0 v).symm)
theorem laws_heldTlbEntryS.ls : loopsOf (bodyOf Go.Proofs.Try.f70) = [bodyAt 2 Go.Proofs.Try.f70] := by kernel_rfl
theorem laws_heldTlbEntryS.at_ : Go.Proofs.Try.prog.funcs[70]? = some Go.Proofs.Try.f70 := by kernel_rfl
theorem laws_heldTlbEntryS.bd : Go.Proofs.Try.f70.body = some (bodyOf Go.Proofs.Try.f70) := by kernel_rfl
theorem laws_heldTlbEntryS.nm : Go.Proofs.Try.f70.name ≠ "runtime.NumGoroutine" := by decide
theorem laws_heldTlbEntryS.ok : EntryOK Go.Proofs.Try.prog 70 laws_heldTlbEntryS.ent :=
  entry_ok (E := laws_heldTlbEntryS.E) (EnvOK.of dok laws_heldTlbEntryS.fok) mixed laws_heldTlbEntryS.at_ laws_heldTlbEntryS.bd laws_heldTlbEntryS.nm laws_heldTlbEntryS.ls (by intro l hl; simp only [List.mem_singleton] at hl; subst hl; exact laws_heldTlbEntryS_l2.lok rfl rfl) laws_heldTlbEntryS.eq
/-! ### loop.example/g00038/laws.heldTlb -/
noncomputable def laws_heldTlb.E : Env := ⟨D, [], [(70, laws_heldTlbEntryS.ent)], []⟩
noncomputable def laws_heldTlb (a0 : List (Int × Int × Int × Int × Bool)) (a1 : Int) (a2 : Int) : Option (Int × Unit) :=
  (laws_heldTlbEntryS a0 a2).bind fun r1 =>
  bif decide (r1.1 < 0) then
    some (-1, ())
  else
    some (r1.1, ())
noncomputable def laws_heldTlb.ent : Entry := ⟨[false, false], [.agg [.val .bor (.slice (.pair (.int .i64) (.pair (.int .i64) (.pair (.int .i64) (.pair (.int .i64) (.bool)))))), .val .bor (.int .i64)], .cell (.val .bor (.int .i64))], [.cell (.val .bor (.int .i64))], [], fun v => laws_heldTlb v.1 v.2.1 v.2.2.1⟩
theorem laws_heldTlb.eq : ∀ v, evFn laws_heldTlb.E Go.Proofs.Try.f19 laws_heldTlb.ent.ptrs laws_heldTlb.ent.ins laws_heldTlb.ent.rets laws_heldTlb.ent.outs v = laws_heldTlb.ent.f v := by intro v; kernel_rfl
theorem laws_heldTlb.fok : ∀ q ∈ [((70 : Nat), laws_heldTlbEntryS.ent)], EntryOK Go.Proofs.Try.prog q.1 q.2 := by
  intro q hq
  simp only [List.mem_cons, List.mem_nil_iff, or_false] at hq
  rcases hq with rfl
  · exact laws_heldTlbEntryS.ok
theorem laws_heldTlb.ls : loopsOf (bodyOf Go.Proofs.Try.f19) = [] := by kernel_rfl
theorem laws_heldTlb.at_ : Go.Proofs.Try.prog.funcs[19]? = some Go.Proofs.Try.f19 := by kernel_rfl
theorem laws_heldTlb.bd : Go.Proofs.Try.f19.body = some (bodyOf Go.Proofs.Try.f19) := by kernel_rfl
theorem laws_heldTlb.nm : Go.Proofs.Try.f19.name ≠ "runtime.NumGoroutine" := by decide
theorem laws_heldTlb.ok : EntryOK Go.Proofs.Try.prog 19 laws_heldTlb.ent :=
  entry_ok (E := laws_heldTlb.E) (EnvOK.of dok laws_heldTlb.fok) mixed laws_heldTlb.at_ laws_heldTlb.bd laws_heldTlb.nm laws_heldTlb.ls (by intro l hl; simp at hl) laws_heldTlb.eq
/-! ### loop.example/g00038/laws.FnExactTlbFlush -/
noncomputable def laws_FnExactTlbFlush.E : Env := ⟨D, [], [(10, laws_szTlb.ent), (12, laws_toTlb.ent), (16, spec_TlbFlush.ent), (17, impl_TlbFlush.ent), (15, laws_eqTlb.ent), (18, laws_markTlb_v2.ent), (19, laws_heldTlb.ent)], []⟩
noncomputable def laws_FnExactTlbFlush (a0 : List (Int × Int × Int × Int × Bool)) (a1 : Int) (a2 : Int) (a3 : Int) : Option (Bool × Unit) :=
  (laws_szTlb a0 a1 1048576).bind fun r1 =>
  bif decide (r1.1 < 0) then
    some (true, ())
  else
    (laws_toTlb a0 a1).bind fun r2 =>
    (spec_TlbFlush r2.1 r2.2.1 a2 a3).bind fun r3 =>
    (laws_toTlb a0 a1).bind fun r4 =>
    (impl_TlbFlush r4.1 r4.2.1 a2 a3).bind fun r5 =>
    (laws_eqTlb r5.1 r5.2.1 r3.1 r3.2.1).bind fun r6 =>
    bif !r6.1 then
      some (false, ())
    else
      (laws_toTlb a0 a1).bind fun r7 =>
      (laws_eqTlb r4.1 r4.2.1 r7.1 r7.2.1).bind fun r8 =>
      bif !r8.1 then
        some (false, ())
      else
        (laws_markTlb_v2 r4.1 r4.2.1 1).bind fun r9 =>
        let r10 : Bool × Unit := (laws_eqTlb r5.1 r5.2.1 r3.1 r3.2.1).getD (false, ())
        let b11 : Bool := (decide (r9.1 < 0) || !r10.1)
        bif (!(!(decide (r9.1 < 0))) || ((laws_eqTlb r5.1 r5.2.1 r3.1 r3.2.1).isSome)) then
          bif b11 then
            some (false, ())
          else
            (laws_markTlb_v2 r5.1 r5.2.1 1).bind fun r12 =>
            (laws_heldTlb r12.2.1 r5.2.1 1).bind fun r13 =>
            bif decide (r13.1 < 0) then
              some (false, ())
            else
            bif (r13.1 != r12.1) then
              some (false, ())
            else
              (laws_toTlb a0 a1).bind fun r14 =>
              (impl_TlbFlush r14.1 r14.2.1 a2 a3).bind fun r15 =>
              (laws_eqTlb r15.1 r15.2.1 r3.1 r3.2.1).bind fun r16 =>
              bif !r16.1 then
                some (false, ())
              else
                (laws_heldTlb r12.2.1 r5.2.1 1).bind fun r17 =>
                bif decide (r17.1 < 0) then
                  some (false, ())
                else
                bif (r17.1 != r12.1) then
                  some (false, ())
                else
                  some (true, ())
        else none
noncomputable def laws_FnExactTlbFlush.ent : Entry := ⟨[false, false, false], [.agg [.val .imm (.slice (.pair (.int .i64) (.pair (.int .i64) (.pair (.int .i64) (.pair (.int .i64) (.bool)))))), .val .bor (.int .i64)], .cell (.val .bor (.int .i64)), .cell (.val .bor (.int .i64))], [.cell (.val .bor (.bool))], [], fun v => laws_FnExactTlbFlush v.1 v.2.1 v.2.2.1 v.2.2.2.1⟩
theorem laws_FnExactTlbFlush.eq : ∀ v, evFn laws_FnExactTlbFlush.E Go.Proofs.Try.f4 laws_FnExactTlbFlush.ent.ptrs laws_FnExactTlbFlush.ent.ins laws_FnExactTlbFlush.ent.rets laws_FnExactTlbFlush.ent.outs v = laws_FnExactTlbFlush.ent.f v := by intro v; kernel_rfl
theorem laws_FnExactTlbFlush.fok : ∀ q ∈ [((10 : Nat), laws_szTlb.ent), ((12 : Nat), laws_toTlb.ent), ((16 : Nat), spec_TlbFlush.ent), ((17 : Nat), impl_TlbFlush.ent), ((15 : Nat), laws_eqTlb.ent), ((18 : Nat), laws_markTlb_v2.ent), ((19 : Nat), laws_heldTlb.ent)], EntryOK Go.Proofs.Try.prog q.1 q.2 := by
  intro q hq
  simp only [List.mem_cons, List.mem_nil_iff, or_false] at hq
  rcases hq with rfl | rfl | rfl | rfl | rfl | rfl | rfl
  · exact laws_szTlb.ok
  · exact laws_toTlb.ok
  · exact spec_TlbFlush.ok
  · exact impl_TlbFlush.ok
  · exact laws_eqTlb.ok
  · exact laws_markTlb_v2.ok
  · exact laws_heldTlb.ok
theorem laws_FnExactTlbFlush.ls : loopsOf (bodyOf Go.Proofs.Try.f4) = [] := by kernel_rfl
theorem laws_FnExactTlbFlush.at_ : Go.Proofs.Try.prog.funcs[4]? = some Go.Proofs.Try.f4 := by kernel_rfl
theorem laws_FnExactTlbFlush.bd : Go.Proofs.Try.f4.body = some (bodyOf Go.Proofs.Try.f4) := by kernel_rfl
theorem laws_FnExactTlbFlush.nm : Go.Proofs.Try.f4.name ≠ "runtime.NumGoroutine" := by decide
theorem laws_FnExactTlbFlush.ok : EntryOK Go.Proofs.Try.prog 4 laws_FnExactTlbFlush.ent :=
  entry_ok (E := laws_FnExactTlbFlush.E) (EnvOK.of dok laws_FnExactTlbFlush.fok) mixed laws_FnExactTlbFlush.at_ laws_FnExactTlbFlush.bd laws_FnExactTlbFlush.nm laws_FnExactTlbFlush.ls (by intro l hl; simp at hl) laws_FnExactTlbFlush.eq
end Go.Ab.FnExactTlbFlush