import Derived.Test.YtaopkodopglgeaaProg
import Derived.Test.YtaopkodopglgeaaAbD
namespace Go.Ab.FnSerialBytes
open Go.RowKit
set_option linter.unusedVariables false
set_option maxRecDepth 100000
noncomputable def tds : List (Option TD) := [
  none,
  some ⟨.other, 1, .opq, 8, false⟩,
  some ⟨.int .i64, 1, .int .i64, 8, false⟩,
  some ⟨.int .i64, 1, .int .i64, 8, false⟩,
  some ⟨.bool, 1, .bool, 1, false⟩,
  some ⟨.int .u8, 1, .int .u8, 1, false⟩,
  some ⟨.int .u8, 1, .int .u8, 1, false⟩,
  some ⟨.struct [(0, 2), (1, 3), (2, 4), (3, 6)], 4, .pair (.int .i64) (.pair (.int .i64) (.pair (.bool) (.int .u8))), 24, true⟩,
  some ⟨.struct [(0, 2), (1, 3), (2, 4), (3, 6)], 4, .pair (.int .i64) (.pair (.int .i64) (.pair (.bool) (.int .u8))), 24, true⟩,
  some ⟨.str, 1, .str, 16, false⟩,
  some ⟨.str, 1, .str, 16, false⟩,
  some ⟨.str, 1, .str, 16, false⟩,
  some ⟨.int .u64, 1, .int .u64, 8, false⟩,
  none,
  none,
  some ⟨.ptr 215, 1, .opq, 8, false⟩,
  some ⟨.ptr 218, 1, .opq, 8, false⟩,
  some ⟨.ptr 228, 1, .opq, 8, false⟩,
  some ⟨.struct [(0, 17)], 1, .opq, 8, true⟩,
  some ⟨.struct [(0, 17)], 1, .opq, 8, true⟩,
  none,
  some ⟨.int .i32, 1, .int .i32, 4, false⟩,
  some ⟨.slice 177, 1, .slice (.pair (.int .i64) (.pair (.int .i64) (.pair (.int .i64) (.pair (.int .i64) (.bool))))), 24, false⟩,
  some ⟨.struct [(0, 22), (1, 2)], 2, .pair (.slice (.pair (.int .i64) (.pair (.int .i64) (.pair (.int .i64) (.pair (.int .i64) (.bool)))))) (.int .i64), 32, true⟩,
  some ⟨.struct [(0, 22), (1, 2)], 2, .pair (.slice (.pair (.int .i64) (.pair (.int .i64) (.pair (.int .i64) (.pair (.int .i64) (.bool)))))) (.int .i64), 32, true⟩,
  some ⟨.other, 1, .opq, 8, false⟩,
  some ⟨.struct [(0, 4), (1, 2), (2, 2)], 3, .pair (.bool) (.pair (.int .i64) (.int .i64)), 24, true⟩,
  some ⟨.struct [(0, 4), (1, 2), (2, 2)], 3, .pair (.bool) (.pair (.int .i64) (.int .i64)), 24, true⟩,
  some ⟨.other, 1, .opq, 8, false⟩,
  some ⟨.slice 50, 1, .slice (.pair (.int .i64) (.pair (.int .i64) (.pair (.int .i64) (.pair (.int .i64) (.bool))))), 24, false⟩,
  some ⟨.struct [(0, 29), (1, 2)], 2, .pair (.slice (.pair (.int .i64) (.pair (.int .i64) (.pair (.int .i64) (.pair (.int .i64) (.bool)))))) (.int .i64), 32, true⟩,
  some ⟨.struct [(0, 29), (1, 2)], 2, .pair (.slice (.pair (.int .i64) (.pair (.int .i64) (.pair (.int .i64) (.pair (.int .i64) (.bool)))))) (.int .i64), 32, true⟩,
  some ⟨.other, 1, .opq, 8, false⟩,
  some ⟨.other, 1, .opq, 8, false⟩,
  some ⟨.other, 1, .opq, 8, false⟩,
  some ⟨.other, 1, .opq, 8, false⟩,
  some ⟨.other, 1, .opq, 8, false⟩,
  some ⟨.other, 1, .opq, 8, false⟩,
  some ⟨.other, 1, .opq, 8, false⟩,
  some ⟨.slice 5, 1, .slice (.int .u8), 24, false⟩,
  none,
  some ⟨.other, 1, .opq, 8, false⟩,
  some ⟨.other, 1, .opq, 8, false⟩,
  some ⟨.slice 2, 1, .slice (.int .i64), 24, false⟩,
  some ⟨.struct [(0, 2), (1, 2), (2, 2), (3, 4), (4, 43), (5, 9)], 6, .pair (.int .i64) (.pair (.int .i64) (.pair (.int .i64) (.pair (.bool) (.pair (.slice (.int .i64)) (.str))))), 72, true⟩,
  some ⟨.struct [(0, 2), (1, 2), (2, 2), (3, 4), (4, 43), (5, 9)], 6, .pair (.int .i64) (.pair (.int .i64) (.pair (.int .i64) (.pair (.bool) (.pair (.slice (.int .i64)) (.str))))), 72, true⟩,
  some ⟨.other, 1, .opq, 8, false⟩,
  some ⟨.other, 1, .opq, 8, false⟩,
  some ⟨.int .u64, 1, .int .u64, 8, false⟩,
  some ⟨.struct [(0, 2), (1, 2), (2, 2), (3, 2), (4, 4)], 5, .pair (.int .i64) (.pair (.int .i64) (.pair (.int .i64) (.pair (.int .i64) (.bool)))), 40, true⟩,
  some ⟨.struct [(0, 2), (1, 2), (2, 2), (3, 2), (4, 4)], 5, .pair (.int .i64) (.pair (.int .i64) (.pair (.int .i64) (.pair (.int .i64) (.bool)))), 40, true⟩,
  some ⟨.other, 1, .opq, 8, false⟩,
  some ⟨.other, 1, .opq, 8, false⟩,
  some ⟨.struct [(0, 9), (1, 9), (2, 2), (3, 4)], 4, .pair (.str) (.pair (.str) (.pair (.int .i64) (.bool))), 48, true⟩,
  some ⟨.struct [(0, 9), (1, 9), (2, 2), (3, 4)], 4, .pair (.str) (.pair (.str) (.pair (.int .i64) (.bool))), 48, true⟩,
  some ⟨.slice 140, 1, .slice (.pair (.int .i64) (.pair (.int .i64) (.pair (.int .i64) (.str)))), 24, false⟩,
  some ⟨.other, 1, .opq, 8, false⟩,
  some ⟨.other, 1, .opq, 8, false⟩,
  some ⟨.struct [(0, 9), (1, 9), (2, 2), (3, 4)], 4, .pair (.str) (.pair (.str) (.pair (.int .i64) (.bool))), 48, true⟩,
  some ⟨.slice 74, 1, .slice (.pair (.int .i64) (.pair (.int .i64) (.bool))), 24, false⟩,
  some ⟨.struct [(0, 2), (1, 58), (5, 59)], 6, .pair (.int .i64) (.pair (.str) (.pair (.str) (.pair (.int .i64) (.pair (.bool) (.slice (.pair (.int .i64) (.pair (.int .i64) (.bool)))))))), 80, true⟩,
  some ⟨.struct [(0, 2), (1, 58), (5, 59)], 6, .pair (.int .i64) (.pair (.str) (.pair (.str) (.pair (.int .i64) (.pair (.bool) (.slice (.pair (.int .i64) (.pair (.int .i64) (.bool)))))))), 80, true⟩,
  some ⟨.other, 1, .opq, 8, false⟩,
  some ⟨.other, 1, .opq, 8, false⟩,
  some ⟨.slice 76, 1, .slice (.pair (.int .i64) (.pair (.int .i64) (.pair (.int .i64) (.str)))), 24, false⟩,
  some ⟨.other, 1, .opq, 8, false⟩,
  some ⟨.other, 1, .opq, 8, false⟩,
  some ⟨.other, 1, .opq, 8, false⟩,
  some ⟨.other, 1, .opq, 8, false⟩,
  some ⟨.other, 1, .opq, 8, false⟩,
  some ⟨.other, 1, .opq, 8, false⟩,
  none,
  some ⟨.other, 1, .opq, 8, false⟩,
  some ⟨.struct [(0, 2), (1, 2), (2, 4)], 3, .pair (.int .i64) (.pair (.int .i64) (.bool)), 24, true⟩,
  some ⟨.struct [(0, 2), (1, 2), (2, 4)], 3, .pair (.int .i64) (.pair (.int .i64) (.bool)), 24, true⟩,
  some ⟨.struct [(0, 2), (1, 2), (2, 2), (3, 9)], 4, .pair (.int .i64) (.pair (.int .i64) (.pair (.int .i64) (.str))), 40, true⟩,
  some ⟨.struct [(0, 2), (1, 2), (2, 2), (3, 9)], 4, .pair (.int .i64) (.pair (.int .i64) (.pair (.int .i64) (.str))), 40, true⟩,
  some ⟨.other, 1, .opq, 8, false⟩,
  some ⟨.slice 162, 1, .slice (.pair (.int .i64) (.pair (.int .i64) (.int .i64))), 24, false⟩,
  some ⟨.struct [(0, 2), (1, 2), (2, 2), (3, 2), (4, 2), (5, 4), (6, 78)], 7, .pair (.int .i64) (.pair (.int .i64) (.pair (.int .i64) (.pair (.int .i64) (.pair (.int .i64) (.pair (.bool) (.slice (.pair (.int .i64) (.pair (.int .i64) (.int .i64))))))))), 72, true⟩,
  some ⟨.struct [(0, 2), (1, 2), (2, 2), (3, 2), (4, 2), (5, 4), (6, 78)], 7, .pair (.int .i64) (.pair (.int .i64) (.pair (.int .i64) (.pair (.int .i64) (.pair (.int .i64) (.pair (.bool) (.slice (.pair (.int .i64) (.pair (.int .i64) (.int .i64))))))))), 72, true⟩,
  some ⟨.slice 164, 1, .slice (.pair (.int .i64) (.pair (.int .i64) (.pair (.int .i64) (.pair (.int .i64) (.pair (.int .i64) (.pair (.int .i64) (.int .i64))))))), 24, false⟩,
  some ⟨.other, 1, .opq, 8, false⟩,
  some ⟨.other, 1, .opq, 8, false⟩,
  some ⟨.slice 105, 1, .slice (.pair (.int .i64) (.pair (.int .i64) (.int .i64))), 24, false⟩,
  some ⟨.struct [(0, 2), (1, 2), (2, 2), (3, 2), (4, 2), (5, 4), (6, 84)], 7, .pair (.int .i64) (.pair (.int .i64) (.pair (.int .i64) (.pair (.int .i64) (.pair (.int .i64) (.pair (.bool) (.slice (.pair (.int .i64) (.pair (.int .i64) (.int .i64))))))))), 72, true⟩,
  some ⟨.struct [(0, 2), (1, 2), (2, 2), (3, 2), (4, 2), (5, 4), (6, 84)], 7, .pair (.int .i64) (.pair (.int .i64) (.pair (.int .i64) (.pair (.int .i64) (.pair (.int .i64) (.pair (.bool) (.slice (.pair (.int .i64) (.pair (.int .i64) (.int .i64))))))))), 72, true⟩,
  some ⟨.slice 157, 1, .slice (.pair (.int .i64) (.pair (.int .i64) (.slice (.int .i64)))), 24, false⟩,
  some ⟨.struct [(0, 2), (1, 86), (8, 87)], 9, .pair (.int .i64) (.pair (.int .i64) (.pair (.int .i64) (.pair (.int .i64) (.pair (.int .i64) (.pair (.int .i64) (.pair (.bool) (.pair (.slice (.pair (.int .i64) (.pair (.int .i64) (.int .i64)))) (.slice (.pair (.int .i64) (.pair (.int .i64) (.slice (.int .i64)))))))))))), 104, true⟩,
  some ⟨.struct [(0, 2), (1, 86), (8, 87)], 9, .pair (.int .i64) (.pair (.int .i64) (.pair (.int .i64) (.pair (.int .i64) (.pair (.int .i64) (.pair (.int .i64) (.pair (.bool) (.pair (.slice (.pair (.int .i64) (.pair (.int .i64) (.int .i64)))) (.slice (.pair (.int .i64) (.pair (.int .i64) (.slice (.int .i64)))))))))))), 104, true⟩,
  some ⟨.other, 1, .opq, 8, false⟩,
  some ⟨.other, 1, .opq, 8, false⟩,
  some ⟨.slice 107, 1, .slice (.pair (.int .i64) (.pair (.int .i64) (.pair (.int .i64) (.pair (.int .i64) (.pair (.int .i64) (.pair (.int .i64) (.int .i64))))))), 24, false⟩,
  some ⟨.other, 1, .opq, 8, false⟩,
  some ⟨.other, 1, .opq, 8, false⟩,
  some ⟨.other, 1, .opq, 8, false⟩,
  some ⟨.other, 1, .opq, 8, false⟩,
  some ⟨.other, 1, .opq, 8, false⟩,
  some ⟨.other, 1, .opq, 8, false⟩,
  some ⟨.other, 1, .opq, 8, false⟩,
  some ⟨.other, 1, .opq, 8, false⟩,
  some ⟨.other, 1, .opq, 8, false⟩,
  some ⟨.other, 1, .opq, 8, false⟩,
  some ⟨.other, 1, .opq, 8, false⟩,
  some ⟨.struct [(0, 2), (1, 2), (2, 2)], 3, .pair (.int .i64) (.pair (.int .i64) (.int .i64)), 24, true⟩,
  some ⟨.struct [(0, 2), (1, 2), (2, 2)], 3, .pair (.int .i64) (.pair (.int .i64) (.int .i64)), 24, true⟩,
  some ⟨.struct [(0, 2), (1, 2), (2, 2), (3, 2), (4, 105)], 7, .pair (.int .i64) (.pair (.int .i64) (.pair (.int .i64) (.pair (.int .i64) (.pair (.int .i64) (.pair (.int .i64) (.int .i64)))))), 56, true⟩,
  some ⟨.struct [(0, 2), (1, 2), (2, 2), (3, 2), (4, 105)], 7, .pair (.int .i64) (.pair (.int .i64) (.pair (.int .i64) (.pair (.int .i64) (.pair (.int .i64) (.pair (.int .i64) (.int .i64)))))), 56, true⟩,
  some ⟨.other, 1, .opq, 8, false⟩,
  some ⟨.other, 1, .opq, 8, false⟩,
  some ⟨.other, 1, .opq, 8, false⟩,
  some ⟨.other, 1, .opq, 8, false⟩,
  some ⟨.other, 1, .opq, 8, false⟩,
  some ⟨.other, 1, .opq, 8, false⟩,
  some ⟨.other, 1, .opq, 8, false⟩,
  some ⟨.other, 1, .opq, 8, false⟩,
  some ⟨.other, 1, .opq, 8, false⟩,
  some ⟨.other, 1, .opq, 8, false⟩,
  some ⟨.other, 1, .opq, 8, false⟩,
  some ⟨.other, 1, .opq, 8, false⟩,
  some ⟨.ptr 154, 1, .opq, 8, false⟩,
  some ⟨.other, 1, .opq, 8, false⟩,
  some ⟨.other, 1, .opq, 8, false⟩,
  some ⟨.other, 1, .opq, 8, false⟩,
  some ⟨.other, 1, .opq, 8, false⟩,
  some ⟨.other, 1, .opq, 8, false⟩,
  some ⟨.other, 1, .opq, 8, false⟩,
  none,
  some ⟨.other, 1, .opq, 8, false⟩,
  some ⟨.other, 1, .opq, 8, false⟩,
  some ⟨.other, 1, .opq, 8, false⟩,
  some ⟨.arr 2 2, 2, .pair (.int .i64) (.int .i64), 16, true⟩,
  some ⟨.struct [(0, 2), (1, 2), (2, 2), (3, 2), (4, 2), (5, 4), (6, 131), (8, 3)], 9, .pair (.int .i64) (.pair (.int .i64) (.pair (.int .i64) (.pair (.int .i64) (.pair (.int .i64) (.pair (.bool) (.pair (.int .i64) (.pair (.int .i64) (.int .i64)))))))), 72, true⟩,
  some ⟨.struct [(0, 2), (1, 2), (2, 2), (3, 2), (4, 2), (5, 4), (6, 131), (8, 3)], 9, .pair (.int .i64) (.pair (.int .i64) (.pair (.int .i64) (.pair (.int .i64) (.pair (.int .i64) (.pair (.bool) (.pair (.int .i64) (.pair (.int .i64) (.int .i64)))))))), 72, true⟩,
  some ⟨.other, 1, .opq, 8, false⟩,
  some ⟨.other, 1, .opq, 8, false⟩,
  some ⟨.other, 1, .opq, 8, false⟩,
  some ⟨.other, 1, .opq, 8, false⟩,
  some ⟨.other, 1, .opq, 8, false⟩,
  some ⟨.other, 1, .opq, 8, false⟩,
  some ⟨.struct [(0, 2), (1, 2), (2, 2), (3, 9)], 4, .pair (.int .i64) (.pair (.int .i64) (.pair (.int .i64) (.str))), 40, true⟩,
  none,
  some ⟨.other, 1, .opq, 8, false⟩,
  some ⟨.other, 1, .opq, 8, false⟩,
  none,
  some ⟨.other, 1, .opq, 8, false⟩,
  some ⟨.other, 1, .opq, 8, false⟩,
  some ⟨.other, 1, .opq, 8, false⟩,
  some ⟨.other, 1, .opq, 8, false⟩,
  some ⟨.other, 1, .opq, 8, false⟩,
  some ⟨.other, 1, .opq, 8, false⟩,
  some ⟨.other, 1, .opq, 8, false⟩,
  some ⟨.int .u64, 1, .int .u64, 8, false⟩,
  some ⟨.struct [(0, 39), (1, 3), (2, 152), (3, 2)], 4, .pair (.slice (.int .u8)) (.pair (.int .i64) (.pair (.int .u64) (.int .i64))), 48, true⟩,
  some ⟨.struct [(0, 39), (1, 3), (2, 152), (3, 2)], 4, .pair (.slice (.int .u8)) (.pair (.int .i64) (.pair (.int .u64) (.int .i64))), 48, true⟩,
  some ⟨.other, 1, .opq, 8, false⟩,
  some ⟨.struct [(0, 2), (1, 2), (2, 43)], 3, .pair (.int .i64) (.pair (.int .i64) (.slice (.int .i64))), 40, true⟩,
  some ⟨.struct [(0, 2), (1, 2), (2, 43)], 3, .pair (.int .i64) (.pair (.int .i64) (.slice (.int .i64))), 40, true⟩,
  none,
  some ⟨.other, 1, .opq, 8, false⟩,
  some ⟨.other, 1, .opq, 8, false⟩,
  some ⟨.other, 1, .opq, 8, false⟩,
  some ⟨.struct [(0, 2), (1, 2), (2, 2)], 3, .pair (.int .i64) (.pair (.int .i64) (.int .i64)), 24, true⟩,
  some ⟨.struct [(0, 2), (1, 2), (2, 2), (3, 2), (4, 162)], 7, .pair (.int .i64) (.pair (.int .i64) (.pair (.int .i64) (.pair (.int .i64) (.pair (.int .i64) (.pair (.int .i64) (.int .i64)))))), 56, true⟩,
  some ⟨.struct [(0, 2), (1, 2), (2, 2), (3, 2), (4, 162)], 7, .pair (.int .i64) (.pair (.int .i64) (.pair (.int .i64) (.pair (.int .i64) (.pair (.int .i64) (.pair (.int .i64) (.int .i64)))))), 56, true⟩,
  some ⟨.other, 1, .opq, 8, false⟩,
  none,
  some ⟨.other, 1, .opq, 8, false⟩,
  some ⟨.other, 1, .opq, 8, false⟩,
  some ⟨.other, 1, .opq, 8, false⟩,
  some ⟨.other, 1, .opq, 8, false⟩,
  some ⟨.other, 1, .opq, 8, false⟩,
  some ⟨.other, 1, .opq, 8, false⟩,
  some ⟨.other, 1, .opq, 8, false⟩,
  some ⟨.other, 1, .opq, 8, false⟩,
  some ⟨.other, 1, .opq, 8, false⟩,
  some ⟨.other, 1, .opq, 8, false⟩,
  some ⟨.struct [(0, 2), (1, 2), (2, 2), (3, 2), (4, 4)], 5, .pair (.int .i64) (.pair (.int .i64) (.pair (.int .i64) (.pair (.int .i64) (.bool)))), 40, true⟩,
  some ⟨.slice 205, 1, .slice (.pair (.int .i64) (.pair (.int .i64) (.pair (.int .i64) (.bool)))), 24, false⟩,
  some ⟨.other, 1, .opq, 8, false⟩,
  some ⟨.struct [(0, 2), (1, 2), (2, 9), (3, 43)], 4, .pair (.int .i64) (.pair (.int .i64) (.pair (.str) (.slice (.int .i64)))), 56, true⟩,
  some ⟨.struct [(0, 2), (1, 2), (2, 9), (3, 43)], 4, .pair (.int .i64) (.pair (.int .i64) (.pair (.str) (.slice (.int .i64)))), 56, true⟩,
  some ⟨.other, 1, .opq, 8, false⟩,
  some ⟨.other, 1, .opq, 8, false⟩,
  some ⟨.struct [(0, 4), (1, 2)], 2, .pair (.bool) (.int .i64), 16, true⟩,
  some ⟨.struct [(0, 4), (1, 2)], 2, .pair (.bool) (.int .i64), 16, true⟩,
  some ⟨.other, 1, .opq, 8, false⟩,
  some ⟨.other, 1, .opq, 8, false⟩,
  some ⟨.other, 1, .opq, 8, false⟩,
  some ⟨.ptr 133, 1, .opq, 8, false⟩,
  some ⟨.other, 1, .opq, 8, false⟩,
  some ⟨.other, 1, .opq, 8, false⟩,
  some ⟨.other, 1, .opq, 8, false⟩,
  some ⟨.ptr 58, 1, .opq, 8, false⟩,
  some ⟨.other, 1, .opq, 8, false⟩,
  some ⟨.other, 1, .opq, 8, false⟩,
  some ⟨.other, 1, .opq, 8, false⟩,
  some ⟨.other, 1, .opq, 8, false⟩,
  some ⟨.ptr 86, 1, .opq, 8, false⟩,
  some ⟨.other, 1, .opq, 8, false⟩,
  some ⟨.other, 1, .opq, 8, false⟩,
  some ⟨.other, 1, .opq, 8, false⟩,
  some ⟨.other, 1, .opq, 8, false⟩,
  some ⟨.other, 1, .opq, 8, false⟩,
  some ⟨.struct [(0, 2), (1, 2), (2, 2), (3, 4)], 4, .pair (.int .i64) (.pair (.int .i64) (.pair (.int .i64) (.bool))), 32, true⟩,
  some ⟨.struct [(0, 2), (1, 2), (2, 2), (3, 4)], 4, .pair (.int .i64) (.pair (.int .i64) (.pair (.int .i64) (.bool))), 32, true⟩,
  some ⟨.other, 1, .opq, 8, false⟩,
  none,
  some ⟨.other, 1, .opq, 8, false⟩,
  some ⟨.other, 1, .opq, 8, false⟩,
  none,
  some ⟨.other, 1, .opq, 8, false⟩,
  some ⟨.other, 1, .opq, 8, false⟩,
  some ⟨.other, 1, .opq, 8, false⟩,
  some ⟨.struct [(0, 17), (1, 17), (2, 17), (3, 9)], 4, .pair (.opq) (.pair (.opq) (.pair (.opq) (.str))), 40, true⟩,
  some ⟨.struct [(0, 17), (1, 17), (2, 17), (3, 9)], 4, .pair (.opq) (.pair (.opq) (.pair (.opq) (.str))), 40, true⟩,
  none,
  none,
  none,
  some ⟨.other, 1, .opq, 8, false⟩,
  some ⟨.int .u32, 1, .int .u32, 4, false⟩,
  some ⟨.int .u8, 1, .int .u8, 1, false⟩,
  some ⟨.int .u8, 1, .int .u8, 1, false⟩,
  some ⟨.other, 1, .opq, 8, false⟩,
  some ⟨.ptr 5, 1, .opq, 8, false⟩,
  some ⟨.int .i32, 1, .int .i32, 4, false⟩,
  some ⟨.int .i32, 1, .int .i32, 4, false⟩,
  some ⟨.struct [(0, 12), (1, 12), (2, 220), (3, 221), (4, 5), (5, 5), (6, 222), (7, 223), (8, 224), (9, 225), (10, 226)], 11, .pair (.int .u64) (.pair (.int .u64) (.pair (.int .u32) (.pair (.int .u8) (.pair (.int .u8) (.pair (.int .u8) (.pair (.int .u8) (.pair (.opq) (.pair (.opq) (.pair (.int .i32) (.int .i32)))))))))), 48, true⟩,
  some ⟨.struct [(0, 12), (1, 12), (2, 220), (3, 221), (4, 5), (5, 5), (6, 222), (7, 223), (8, 224), (9, 225), (10, 226)], 11, .pair (.int .u64) (.pair (.int .u64) (.pair (.int .u32) (.pair (.int .u8) (.pair (.int .u8) (.pair (.int .u8) (.pair (.int .u8) (.pair (.opq) (.pair (.opq) (.pair (.int .i32) (.int .i32)))))))))), 48, true⟩,
  some ⟨.other, 1, .opq, 8, false⟩]
noncomputable def D : TypeId → Option TD := nthD tds
theorem tdsOk : okTds Go.Proofs.Try.prog (nthD tds) 0 tds = true := by kernel_rfl
theorem dok : Dok Go.Proofs.Try.prog D := dok_of tdsOk
theorem mixed : Go.Proofs.Try.prog.follows .mixedOrders = true := by kernel_rfl
abbrev R1 : Ty := .pair (.int .i64) (.pair (.int .i64) (.pair (.int .i64) (.str)))
abbrev R2 : Ty := .pair (.int .i64) (.pair (.int .i64) (.bool))
/-! ### loop.example/g00038/spec.l01Source -/
noncomputable def spec_l01Source_v3.E3 : Env := ⟨D, [], [], []⟩
noncomputable def spec_l01Source_v3_l3_step (rec : List Int → Int → List Int → Int → Int → Int → Option ((List Int × List Int × Int × Int × Int × Unit))) (y0 : List Int) (y1 : Int) (y2 : List Int) (y3 : Int) (y4 : Int) (y5 : Int) : Option ((List Int × List Int × Int × Int × Int × Unit)) :=
  let b1 : Bool := decide (y1 < (y0.length : Int))
  bif (b1 && decide (y1 < 64)) then
    let x2 : Int := (IntKind.u64.wrap ((rd (.int .u8) y0 y1)))
    let x3 : Int := (IntKind.u64.wrap ((bits .xor .u64 y4 x2) * 1099511628211))
    bif decide (0 ≤ y1) && decide (y1 < (y0.length : Int)) then
      rec y0 (wrap64 (y1 + 1)) y2 y3 x3 y5
    else none
  else
    some (y0, y2, y3, y4, y5, ())
noncomputable def spec_l01Source_v3_l3 : Nat → List Int → Int → List Int → Int → Int → Int → Option ((List Int × List Int × Int × Int × Int × Unit))
  | 0 => fun _ _ _ _ _ _ => none
  | n + 1 => spec_l01Source_v3_l3_step (spec_l01Source_v3_l3 n)
noncomputable def spec_l01Source_v3_l3.ent : LEntry := ⟨(.cell (.val .imm (.slice (.int .u8))) :: (sk 2 (.cell (.fix (.ptr 7 0)) :: (.cell (.val .bor (.int .i64)) :: (sk 41 []))))), rk 7 ([.val .imm (.slice (.int .u8)), .val .bor (.int .i64), .val .bor (.int .u64), .val .bor (.int .i64)] :: (rk 38 [])), [], [], [⟨some 0, (.cell (.val .imm (.slice (.int .u8))) :: (sk 2 (.cell (.fix (.ptr 7 0)) :: (sk 42 [])))), rk 7 ([.val .imm (.slice (.int .u8)), .val .bor (.int .i64), .val .bor (.int .u64), .val .bor (.int .i64)] :: (rk 38 [])), [], []⟩], fun v => spec_l01Source_v3_l3 K0 v.1 v.2.1 v.2.2.1 v.2.2.2.1 v.2.2.2.2.1 v.2.2.2.2.2.1⟩
theorem spec_l01Source_v3_l3.eq : ∀ rec v, evStep spec_l01Source_v3.E3 (bodyAt 3 Go.Proofs.Try.f71) spec_l01Source_v3_l3.ent.ins spec_l01Source_v3_l3.ent.rts spec_l01Source_v3_l3.ent.hm spec_l01Source_v3_l3.ent.nl spec_l01Source_v3_l3.ent.xs rec v = spec_l01Source_v3_l3_step (fun c0 c1 c2 c3 c4 c5 => rec (c0, c1, c2, c3, c4, c5, ())) v.1 v.2.1 v.2.2.1 v.2.2.2.1 v.2.2.2.2.1 v.2.2.2.2.2.1 := by intro rec v; kernel_rfl
noncomputable def spec_l01Source_v3.E : Env := ⟨D, [], [], [(3, spec_l01Source_v3_l3.ent)]⟩
noncomputable def spec_l01Source_v3 (a0 : List Int) : Option (List Int × Int × Int × Int × Unit) :=
  (spec_l01Source_v3_l3 K0 a0 0 a0 0 88172645463325252 0).bind fun o4 =>
  let b5 : Bool := decide ((o4.1.length : Int) > 12)
  let l8 : List Int := (bif b5 then o4.2.1 else o4.2.1)
  let x9 : Int := (bif b5 then o4.2.2.1 else o4.2.2.1)
  let x10 : Int := (bif b5 then o4.2.2.2.1 else o4.2.2.2.1)
  let x11 : Int := (bif b5 then 12 else (o4.1.length : Int))
  some (l8, x9, x10, x11, ())
noncomputable def spec_l01Source_v3.ent : Entry := ⟨[false], [.cell (.val .imm (.slice (.int .u8)))], [.box [.val .imm (.slice (.int .u8)), .val .bor (.int .i64), .val .bor (.int .u64), .val .bor (.int .i64)]], [], fun v => spec_l01Source_v3 v.1⟩
theorem spec_l01Source_v3.eq : ∀ v, evFn spec_l01Source_v3.E Go.Proofs.Try.f71 spec_l01Source_v3.ent.ptrs spec_l01Source_v3.ent.ins spec_l01Source_v3.ent.rets spec_l01Source_v3.ent.outs v = spec_l01Source_v3.ent.f v := by intro v; kernel_rfl
theorem spec_l01Source_v3.fok : ∀ q ∈ ([] : List (Nat × Entry)), EntryOK Go.Proofs.Try.prog q.1 q.2 := by intro q hq; simp at hq
theorem spec_l01Source_v3_l3.it : ∀ n v, iter (evStep spec_l01Source_v3.E3 (bodyAt 3 Go.Proofs.Try.f71) spec_l01Source_v3_l3.ent.ins spec_l01Source_v3_l3.ent.rts spec_l01Source_v3_l3.ent.hm spec_l01Source_v3_l3.ent.nl spec_l01Source_v3_l3.ent.xs) n v = spec_l01Source_v3_l3 n v.1 v.2.1 v.2.2.1 v.2.2.2.1 v.2.2.2.2.1 v.2.2.2.2.2.1 := by
  intro n
  induction n with
  | zero => intro v; rfl
  | succ n ih =>
    intro v
    show (evStep spec_l01Source_v3.E3 (bodyAt 3 Go.Proofs.Try.f71) spec_l01Source_v3_l3.ent.ins spec_l01Source_v3_l3.ent.rts spec_l01Source_v3_l3.ent.hm spec_l01Source_v3_l3.ent.nl spec_l01Source_v3_l3.ent.xs) (iter (evStep spec_l01Source_v3.E3 (bodyAt 3 Go.Proofs.Try.f71) spec_l01Source_v3_l3.ent.ins spec_l01Source_v3_l3.ent.rts spec_l01Source_v3_l3.ent.hm spec_l01Source_v3_l3.ent.nl spec_l01Source_v3_l3.ent.xs) n) v = _
    rw [spec_l01Source_v3_l3.eq, show (fun c0 c1 c2 c3 c4 c5 => iter (evStep spec_l01Source_v3.E3 (bodyAt 3 Go.Proofs.Try.f71) spec_l01Source_v3_l3.ent.ins spec_l01Source_v3_l3.ent.rts spec_l01Source_v3_l3.ent.hm spec_l01Source_v3_l3.ent.nl spec_l01Source_v3_l3.ent.xs) n (c0, c1, c2, c3, c4, c5, ())) = spec_l01Source_v3_l3 n from by funext c0 c1 c2 c3 c4 c5; exact ih _]
    rfl
theorem spec_l01Source_v3_l3.fr : firstRegion (bodyAt 3 Go.Proofs.Try.f71) = 3 := by kernel_rfl
theorem spec_l01Source_v3_l3.ls : loopsOf (bodyAt 3 Go.Proofs.Try.f71) = [] := by kernel_rfl
theorem spec_l01Source_v3_l3.lok {E : Env} (hpin : spec_l01Source_v3.E3.pin = E.pin) (hfind : find 3 E.loops = some spec_l01Source_v3_l3.ent) : LoopOK Go.Proofs.Try.prog E (bodyAt 3 Go.Proofs.Try.f71) :=
  loop_of (E1 := spec_l01Source_v3.E3) (EnvOK.of dok spec_l01Source_v3.fok) mixed hpin (by rw [spec_l01Source_v3_l3.fr]; exact hfind) spec_l01Source_v3_l3.ls (by intro l hl; simp at hl) (fun v => (spec_l01Source_v3_l3.it K0 v).symm)
theorem spec_l01Source_v3.ls : loopsOf (bodyOf Go.Proofs.Try.f71) = [bodyAt 3 Go.Proofs.Try.f71] := by kernel_rfl
theorem spec_l01Source_v3.at_ : Go.Proofs.Try.prog.funcs[71]? = some Go.Proofs.Try.f71 := by kernel_rfl
theorem spec_l01Source_v3.bd : Go.Proofs.Try.f71.body = some (bodyOf Go.Proofs.Try.f71) := by kernel_rfl
theorem spec_l01Source_v3.nm : Go.Proofs.Try.f71.name ≠ "runtime.NumGoroutine" := by decide
theorem spec_l01Source_v3.ok : EntryOK Go.Proofs.Try.prog 71 spec_l01Source_v3.ent :=
  entry_ok (E := spec_l01Source_v3.E) (EnvOK.of dok spec_l01Source_v3.fok) mixed spec_l01Source_v3.at_ spec_l01Source_v3.bd spec_l01Source_v3.nm spec_l01Source_v3.ls (by intro l hl; simp only [List.mem_singleton] at hl; subst hl; exact spec_l01Source_v3_l3.lok rfl rfl) spec_l01Source_v3.eq
/-! ### (*loop.example/g00038/spec.l01Src).n -/
noncomputable def spec_l01Src_n_v2.E : Env := ⟨D, [0], [], []⟩
noncomputable def spec_l01Src_n_v2 (a0 : List Int) (a1 : Int) (a2 : Int) (a3 : Int) (a4 : Int) : Option (Int × List Int × Int × Int × Int × Unit) :=
  bif decide (a4 ≤ 1) then
    some (0, a0, a1, a2, a3, ())
  else
    let b1 : Bool := decide (a1 < (a0.length : Int))
    let x2 : Int := (IntKind.u64.wrap ((rd (.int .u8) a0 a1)))
    let x5 : Int := (bif b1 then (wrap64 (a1 + 1)) else a1)
    bif (!b1 || (decide (0 ≤ a1) && decide (a1 < (a0.length : Int)))) then
      let x6 : Int := shl .u64 (bif b1 then a2 else a2) 13
      let x7 : Int := (bits .xor .u64 (bif b1 then a2 else a2) x6)
      bif decide (0 ≤ (13 : Int)) then
        let x8 : Int := (bits .xor .u64 x7 (shr .u64 x7 7))
        bif decide (0 ≤ (7 : Int)) then
          let x9 : Int := (bits .xor .u64 x8 (shl .u64 x8 17))
          bif decide (0 ≤ (17 : Int)) then
            let x10 : Int := (IntKind.u64.wrap ((bif b1 then x2 else 0) + shr .u64 x9 20))
            let x11 : Int := (IntKind.u64.wrap ((bif b1 then a4 else a4)))
            let x12 : Int := (wrap64 ((Int.tmod x10 x11)))
            bif (decide (0 ≤ (20 : Int))) && (!(x11 == 0)) then
              some (x12, (bif b1 then a0 else a0), x5, x9, (bif b1 then a3 else a3), ())
            else none
          else none
        else none
      else none
    else none
noncomputable def spec_l01Src_n_v2.ent : Entry := ⟨[true, false], [.agg [.val .imm (.slice (.int .u8)), .val .bor (.int .i64), .val .bor (.int .u64), .val .bor (.int .i64)], .cell (.val .bor (.int .i64))], [.cell (.val .bor (.int .i64))], [.agg [.val .imm (.slice (.int .u8)), .val .bor (.int .i64), .val .bor (.int .u64), .val .bor (.int .i64)]], fun v => spec_l01Src_n_v2 v.1 v.2.1 v.2.2.1 v.2.2.2.1 v.2.2.2.2.1⟩
theorem spec_l01Src_n_v2.eq : ∀ v, evFn spec_l01Src_n_v2.E Go.Proofs.Try.f73 spec_l01Src_n_v2.ent.ptrs spec_l01Src_n_v2.ent.ins spec_l01Src_n_v2.ent.rets spec_l01Src_n_v2.ent.outs v = spec_l01Src_n_v2.ent.f v := by intro v; kernel_rfl
theorem spec_l01Src_n_v2.fok : ∀ q ∈ ([] : List (Nat × Entry)), EntryOK Go.Proofs.Try.prog q.1 q.2 := by intro q hq; simp at hq
theorem spec_l01Src_n_v2.ls : loopsOf (bodyOf Go.Proofs.Try.f73) = [] := by kernel_rfl
theorem spec_l01Src_n_v2.at_ : Go.Proofs.Try.prog.funcs[73]? = some Go.Proofs.Try.f73 := by kernel_rfl
theorem spec_l01Src_n_v2.bd : Go.Proofs.Try.f73.body = some (bodyOf Go.Proofs.Try.f73) := by kernel_rfl
theorem spec_l01Src_n_v2.nm : Go.Proofs.Try.f73.name ≠ "runtime.NumGoroutine" := by decide
theorem spec_l01Src_n_v2.ok : EntryOK Go.Proofs.Try.prog 73 spec_l01Src_n_v2.ent :=
  entry_ok (E := spec_l01Src_n_v2.E) (EnvOK.of dok spec_l01Src_n_v2.fok) mixed spec_l01Src_n_v2.at_ spec_l01Src_n_v2.bd spec_l01Src_n_v2.nm spec_l01Src_n_v2.ls (by intro l hl; simp at hl) spec_l01Src_n_v2.eq
/-! ### (*loop.example/g00038/spec.l01Src).bytes -/
noncomputable def spec_l01Src_bytes_v2.E3 : Env := ⟨D, [0], [(73, spec_l01Src_n_v2.ent)], []⟩
noncomputable def spec_l01Src_bytes_v2_l3_step (rec : Int → Int → List Int → Int → Int → Int → List Int → Option ((List Int × Int × Int × Int × List Int × Unit))) (y0 : Int) (y1 : Int) (y2 : List Int) (y3 : Int) (y4 : Int) (y5 : Int) (y6 : List Int) : Option ((List Int × Int × Int × Int × List Int × Unit)) :=
  bif decide (y1 < y0) then
    (spec_l01Src_n_v2 y2 y3 y4 y5 256).bind fun r1 =>
    let l2 : List Int := [(IntKind.u8.wrap (r1.1))]
    bif roomy ((y6.length : Int) + (l2.length : Int)) 1 then
      rec y0 (wrap64 (y1 + 1)) r1.2.1 r1.2.2.1 r1.2.2.2.1 r1.2.2.2.2.1 (y6 ++ l2)
    else none
  else
    some (y2, y3, y4, y5, y6, ())
noncomputable def spec_l01Src_bytes_v2_l3 : Nat → Int → Int → List Int → Int → Int → Int → List Int → Option ((List Int × Int × Int × Int × List Int × Unit))
  | 0 => fun _ _ _ _ _ _ _ => none
  | n + 1 => spec_l01Src_bytes_v2_l3_step (spec_l01Src_bytes_v2_l3 n)
noncomputable def spec_l01Src_bytes_v2_l3.ent : LEntry := ⟨(.cell (.fix (.ptr 0 0)) :: (.cell (.val .bor (.int .i64)) :: (sk 3 (.cell (.fix (.view 5 0)) :: (.cell (.val .bor (.int .i64)) :: (sk 14 [])))))), ([.val .imm (.slice (.int .u8)), .val .bor (.int .i64), .val .bor (.int .u64), .val .bor (.int .i64)] :: (rk 4 ([.val .own (.slice (.int .u8))] :: (rk 15 [])))), [(5, true, .int .u8)], [], [⟨some 0, (.cell (.fix (.ptr 0 0)) :: (sk 4 (.cell (.fix (.view 5 0)) :: (sk 15 [])))), ([.val .imm (.slice (.int .u8)), .val .bor (.int .i64), .val .bor (.int .u64), .val .bor (.int .i64)] :: (rk 4 ([.val .own (.slice (.int .u8))] :: (rk 15 [])))), [], []⟩], fun v => spec_l01Src_bytes_v2_l3 K0 v.1 v.2.1 v.2.2.1 v.2.2.2.1 v.2.2.2.2.1 v.2.2.2.2.2.1 v.2.2.2.2.2.2.1⟩
theorem spec_l01Src_bytes_v2_l3.eq : ∀ rec v, evStep spec_l01Src_bytes_v2.E3 (bodyAt 3 Go.Proofs.Try.f101) spec_l01Src_bytes_v2_l3.ent.ins spec_l01Src_bytes_v2_l3.ent.rts spec_l01Src_bytes_v2_l3.ent.hm spec_l01Src_bytes_v2_l3.ent.nl spec_l01Src_bytes_v2_l3.ent.xs rec v = spec_l01Src_bytes_v2_l3_step (fun c0 c1 c2 c3 c4 c5 c6 => rec (c0, c1, c2, c3, c4, c5, c6, ())) v.1 v.2.1 v.2.2.1 v.2.2.2.1 v.2.2.2.2.1 v.2.2.2.2.2.1 v.2.2.2.2.2.2.1 := by intro rec v; kernel_rfl
noncomputable def spec_l01Src_bytes_v2.E : Env := ⟨D, [0], [(73, spec_l01Src_n_v2.ent)], [(3, spec_l01Src_bytes_v2_l3.ent)]⟩
noncomputable def spec_l01Src_bytes_v2 (a0 : List Int) (a1 : Int) (a2 : Int) (a3 : Int) (a4 : Int) : Option (ByteArray × List Int × Int × Int × Int × Unit) :=
  (spec_l01Src_bytes_v2_l3 K0 a4 0 a0 a1 a2 a3 []).bind fun o3 =>
  some (b2s o3.2.2.2.2.1, o3.1, o3.2.1, o3.2.2.1, o3.2.2.2.1, ())
noncomputable def spec_l01Src_bytes_v2.ent : Entry := ⟨[true, false], [.agg [.val .imm (.slice (.int .u8)), .val .bor (.int .i64), .val .bor (.int .u64), .val .bor (.int .i64)], .cell (.val .bor (.int .i64))], [.cell (.val .bor (.str))], [.agg [.val .imm (.slice (.int .u8)), .val .bor (.int .i64), .val .bor (.int .u64), .val .bor (.int .i64)]], fun v => spec_l01Src_bytes_v2 v.1 v.2.1 v.2.2.1 v.2.2.2.1 v.2.2.2.2.1⟩
theorem spec_l01Src_bytes_v2.eq : ∀ v, evFn spec_l01Src_bytes_v2.E Go.Proofs.Try.f101 spec_l01Src_bytes_v2.ent.ptrs spec_l01Src_bytes_v2.ent.ins spec_l01Src_bytes_v2.ent.rets spec_l01Src_bytes_v2.ent.outs v = spec_l01Src_bytes_v2.ent.f v := by intro v; kernel_rfl
theorem spec_l01Src_bytes_v2.fok : ∀ q ∈ [((73 : Nat), spec_l01Src_n_v2.ent)], EntryOK Go.Proofs.Try.prog q.1 q.2 := by
  intro q hq
  simp only [List.mem_cons, List.mem_nil_iff, or_false] at hq
  rcases hq with rfl
  · exact spec_l01Src_n_v2.ok
theorem spec_l01Src_bytes_v2_l3.it : ∀ n v, iter (evStep spec_l01Src_bytes_v2.E3 (bodyAt 3 Go.Proofs.Try.f101) spec_l01Src_bytes_v2_l3.ent.ins spec_l01Src_bytes_v2_l3.ent.rts spec_l01Src_bytes_v2_l3.ent.hm spec_l01Src_bytes_v2_l3.ent.nl spec_l01Src_bytes_v2_l3.ent.xs) n v = spec_l01Src_bytes_v2_l3 n v.1 v.2.1 v.2.2.1 v.2.2.2.1 v.2.2.2.2.1 v.2.2.2.2.2.1 v.2.2.2.2.2.2.1 := by
  intro n
  induction n with
  | zero => intro v; rfl
  | succ n ih =>
    intro v
    show (evStep spec_l01Src_bytes_v2.E3 (bodyAt 3 Go.Proofs.Try.f101) spec_l01Src_bytes_v2_l3.ent.ins spec_l01Src_bytes_v2_l3.ent.rts spec_l01Src_bytes_v2_l3.ent.hm spec_l01Src_bytes_v2_l3.ent.nl spec_l01Src_bytes_v2_l3.ent.xs) (iter (evStep spec_l01Src_bytes_v2.E3 (bodyAt 3 Go.Proofs.Try.f101) spec_l01Src_bytes_v2_l3.ent.ins spec_l01Src_bytes_v2_l3.ent.rts spec_l01Src_bytes_v2_l3.ent.hm spec_l01Src_bytes_v2_l3.ent.nl spec_l01Src_bytes_v2_l3.ent.xs) n) v = _
    rw [spec_l01Src_bytes_v2_l3.eq, show (fun c0 c1 c2 c3 c4 c5 c6 => iter (evStep spec_l01Src_bytes_v2.E3 (bodyAt 3 Go.Proofs.Try.f101) spec_l01Src_bytes_v2_l3.ent.ins spec_l01Src_bytes_v2_l3.ent.rts spec_l01Src_bytes_v2_l3.ent.hm spec_l01Src_bytes_v2_l3.ent.nl spec_l01Src_bytes_v2_l3.ent.xs) n (c0, c1, c2, c3, c4, c5, c6, ())) = spec_l01Src_bytes_v2_l3 n from by funext c0 c1 c2 c3 c4 c5 c6; exact ih _]
    rfl
theorem spec_l01Src_bytes_v2_l3.fr : firstRegion (bodyAt 3 Go.Proofs.Try.f101) = 3 := by kernel_rfl
theorem spec_l01Src_bytes_v2_l3.ls : loopsOf (bodyAt 3 Go.Proofs.Try.f101) = [] := by kernel_rfl
theorem spec_l01Src_bytes_v2_l3.lok {E : Env} (hpin : spec_l01Src_bytes_v2.E3.pin = E.pin) (hfind : find 3 E.loops = some spec_l01Src_bytes_v2_l3.ent) : LoopOK Go.Proofs.Try.prog E (bodyAt 3 Go.Proofs.Try.f101) :=
  loop_of (E1 := spec_l01Src_bytes_v2.E3) (EnvOK.of dok spec_l01Src_bytes_v2.fok) mixed hpin (by rw [spec_l01Src_bytes_v2_l3.fr]; exact hfind) spec_l01Src_bytes_v2_l3.ls (by intro l hl; simp at hl) (fun v => (spec_l01Src_bytes_v2_l3.it K0 v).symm)
theorem spec_l01Src_bytes_v2.ls : loopsOf (bodyOf Go.Proofs.Try.f101) = [bodyAt 3 Go.Proofs.Try.f101] := by kernel_rfl
theorem spec_l01Src_bytes_v2.at_ : Go.Proofs.Try.prog.funcs[101]? = some Go.Proofs.Try.f101 := by kernel_rfl
theorem spec_l01Src_bytes_v2.bd : Go.Proofs.Try.f101.body = some (bodyOf Go.Proofs.Try.f101) := by kernel_rfl
theorem spec_l01Src_bytes_v2.nm : Go.Proofs.Try.f101.name ≠ "runtime.NumGoroutine" := by decide
theorem spec_l01Src_bytes_v2.ok : EntryOK Go.Proofs.Try.prog 101 spec_l01Src_bytes_v2.ent :=
  entry_ok (E := spec_l01Src_bytes_v2.E) (EnvOK.of dok spec_l01Src_bytes_v2.fok) mixed spec_l01Src_bytes_v2.at_ spec_l01Src_bytes_v2.bd spec_l01Src_bytes_v2.nm spec_l01Src_bytes_v2.ls (by intro l hl; simp only [List.mem_singleton] at hl; subst hl; exact spec_l01Src_bytes_v2_l3.lok rfl rfl) spec_l01Src_bytes_v2.eq
/-! ### (*loop.example/g00038/spec.l01Src).one -/
noncomputable def spec_l01Src_one_v2.E : Env := ⟨D, [0], [(73, spec_l01Src_n_v2.ent)], []⟩
noncomputable def spec_l01Src_one_v2 (a0 : List Int) (a1 : Int) (a2 : Int) (a3 : Int) (a4 : Int) : Option (Bool × List Int × Int × Int × Int × Unit) :=
  (spec_l01Src_n_v2 a0 a1 a2 a3 a4).bind fun r1 =>
  some ((r1.1 == 0), r1.2.1, r1.2.2.1, r1.2.2.2.1, r1.2.2.2.2.1, ())
noncomputable def spec_l01Src_one_v2.ent : Entry := ⟨[true, false], [.agg [.val .imm (.slice (.int .u8)), .val .bor (.int .i64), .val .bor (.int .u64), .val .bor (.int .i64)], .cell (.val .bor (.int .i64))], [.cell (.val .bor (.bool))], [.agg [.val .imm (.slice (.int .u8)), .val .bor (.int .i64), .val .bor (.int .u64), .val .bor (.int .i64)]], fun v => spec_l01Src_one_v2 v.1 v.2.1 v.2.2.1 v.2.2.2.1 v.2.2.2.2.1⟩
theorem spec_l01Src_one_v2.eq : ∀ v, evFn spec_l01Src_one_v2.E Go.Proofs.Try.f72 spec_l01Src_one_v2.ent.ptrs spec_l01Src_one_v2.ent.ins spec_l01Src_one_v2.ent.rets spec_l01Src_one_v2.ent.outs v = spec_l01Src_one_v2.ent.f v := by intro v; kernel_rfl
theorem spec_l01Src_one_v2.fok : ∀ q ∈ [((73 : Nat), spec_l01Src_n_v2.ent)], EntryOK Go.Proofs.Try.prog q.1 q.2 := by
  intro q hq
  simp only [List.mem_cons, List.mem_nil_iff, or_false] at hq
  rcases hq with rfl
  · exact spec_l01Src_n_v2.ok
theorem spec_l01Src_one_v2.ls : loopsOf (bodyOf Go.Proofs.Try.f72) = [] := by kernel_rfl
theorem spec_l01Src_one_v2.at_ : Go.Proofs.Try.prog.funcs[72]? = some Go.Proofs.Try.f72 := by kernel_rfl
theorem spec_l01Src_one_v2.bd : Go.Proofs.Try.f72.body = some (bodyOf Go.Proofs.Try.f72) := by kernel_rfl
theorem spec_l01Src_one_v2.nm : Go.Proofs.Try.f72.name ≠ "runtime.NumGoroutine" := by decide
theorem spec_l01Src_one_v2.ok : EntryOK Go.Proofs.Try.prog 72 spec_l01Src_one_v2.ent :=
  entry_ok (E := spec_l01Src_one_v2.E) (EnvOK.of dok spec_l01Src_one_v2.fok) mixed spec_l01Src_one_v2.at_ spec_l01Src_one_v2.bd spec_l01Src_one_v2.nm spec_l01Src_one_v2.ls (by intro l hl; simp at hl) spec_l01Src_one_v2.eq
/-! ### (*loop.example/g00038/spec.l01Src).zeros -/
noncomputable def spec_l01Src_zeros.E : Env := ⟨D, [], [], []⟩
noncomputable def spec_l01Src_zeros (a0 : List Int) (a1 : Int) (a2 : Int) (a3 : Int) (a4 : Int) : Option (ByteArray × Unit) :=
  let l1 : List Int := List.replicate a4.toNat (Ty.dflt (.int .u8))
  bif decide (0 ≤ a4) && decide (a4 ≤ a4) && roomy a4 1 then
    some (b2s l1, ())
  else none
noncomputable def spec_l01Src_zeros.ent : Entry := ⟨[false, false], [.rop [.val .bor (.slice (.int .u8)), .val .bor (.int .i64), .val .bor (.int .u64), .val .bor (.int .i64)], .cell (.val .bor (.int .i64))], [.cell (.val .bor (.str))], [], fun v => spec_l01Src_zeros v.1 v.2.1 v.2.2.1 v.2.2.2.1 v.2.2.2.2.1⟩
theorem spec_l01Src_zeros.eq : ∀ v, evFn spec_l01Src_zeros.E Go.Proofs.Try.f102 spec_l01Src_zeros.ent.ptrs spec_l01Src_zeros.ent.ins spec_l01Src_zeros.ent.rets spec_l01Src_zeros.ent.outs v = spec_l01Src_zeros.ent.f v := by intro v; kernel_rfl
theorem spec_l01Src_zeros.fok : ∀ q ∈ ([] : List (Nat × Entry)), EntryOK Go.Proofs.Try.prog q.1 q.2 := by intro q hq; simp at hq
theorem spec_l01Src_zeros.ls : loopsOf (bodyOf Go.Proofs.Try.f102) = [] := by kernel_rfl
theorem spec_l01Src_zeros.at_ : Go.Proofs.Try.prog.funcs[102]? = some Go.Proofs.Try.f102 := by kernel_rfl
theorem spec_l01Src_zeros.bd : Go.Proofs.Try.f102.body = some (bodyOf Go.Proofs.Try.f102) := by kernel_rfl
theorem spec_l01Src_zeros.nm : Go.Proofs.Try.f102.name ≠ "runtime.NumGoroutine" := by decide
theorem spec_l01Src_zeros.ok : EntryOK Go.Proofs.Try.prog 102 spec_l01Src_zeros.ent :=
  entry_ok (E := spec_l01Src_zeros.E) (EnvOK.of dok spec_l01Src_zeros.fok) mixed spec_l01Src_zeros.at_ spec_l01Src_zeros.bd spec_l01Src_zeros.nm spec_l01Src_zeros.ls (by intro l hl; simp at hl) spec_l01Src_zeros.eq
/-! ### loop.example/g00038/spec.DrawRunSerial -/
noncomputable def spec_DrawRunSerial_v3.E11 : Env := ⟨D, [], [(71, spec_l01Source_v3.ent), (73, spec_l01Src_n_v2.ent), (101, spec_l01Src_bytes_v2.ent), (72, spec_l01Src_one_v2.ent), (102, spec_l01Src_zeros.ent)], []⟩
noncomputable def spec_DrawRunSerial_v3_l11_step (rec : Int → ByteArray → ByteArray → Int → Bool → ByteArray → ByteArray → Int → Bool → (List (Int × Int × Int × ByteArray)) → List Int → Int → Int → Int → Option ((ByteArray × ByteArray × Int × Bool × ByteArray × ByteArray × Int × Bool × List (Int × Int × Int × ByteArray) × Unit))) (y0 : Int) (y1 : ByteArray) (y2 : ByteArray) (y3 : Int) (y4 : Bool) (y5 : ByteArray) (y6 : ByteArray) (y7 : Int) (y8 : Bool) (y9 : List (Int × Int × Int × ByteArray)) (y10 : List Int) (y11 : Int) (y12 : Int) (y13 : Int) : Option ((ByteArray × ByteArray × Int × Bool × ByteArray × ByteArray × Int × Bool × List (Int × Int × Int × ByteArray) × Unit)) :=
  bif decide (y0 > 0) then
    (spec_l01Src_n_v2 y10 y11 y12 y13 3).bind fun r71 =>
    let x72 : Int := (wrap64 ((1 : Int) + r71.1))
    (spec_l01Src_n_v2 r71.2.1 r71.2.2.1 r71.2.2.2.1 r71.2.2.2.2.1 4).bind fun r73 =>
    (spec_l01Src_n_v2 r73.2.1 r73.2.2.1 r73.2.2.2.1 r73.2.2.2.2.1 300).bind fun r74 =>
    let r75 : Int × List Int × Int × Int × Int × Unit := (spec_l01Src_n_v2 r74.2.1 r74.2.2.1 r74.2.2.2.1 r74.2.2.2.2.1 9).getD (0, [], 0, 0, 0, ())
    let r76 : ByteArray × List Int × Int × Int × Int × Unit := (spec_l01Src_bytes_v2 r75.2.1 r75.2.2.1 r75.2.2.2.1 r75.2.2.2.2.1 r75.1).getD (ByteArray.empty, [], 0, 0, 0, ())
    let x77 : Int := (bif (x72 == 1) then y0 else y0)
    let x80 : Int := (bif (x72 == 1) then x72 else x72)
    let x81 : Int := (bif (x72 == 1) then r73.1 else r73.1)
    let x83 : Int := (bif (x72 == 1) then (wrap64 (r74.1 - 5)) else (wrap64 (r74.1 - 5)))
    let s86 : ByteArray := (bif (x72 == 1) then y1 else y1)
    let s87 : ByteArray := (bif (x72 == 1) then y2 else y2)
    let x88 : Int := (bif (x72 == 1) then y3 else y3)
    let b89 : Bool := (bif (x72 == 1) then y4 else y4)
    let s90 : ByteArray := (bif (x72 == 1) then y5 else y5)
    let s91 : ByteArray := (bif (x72 == 1) then y6 else y6)
    let x92 : Int := (bif (x72 == 1) then y7 else y7)
    let b93 : Bool := (bif (x72 == 1) then y8 else y8)
    let l94 : List (Int × Int × Int × ByteArray) := (bif (x72 == 1) then y9 else y9)
    let s95 : ByteArray := (bif (x72 == 1) then r76.1 else ByteArray.empty)
    let l96 : List Int := (bif (x72 == 1) then r76.2.1 else r74.2.1)
    let x97 : Int := (bif (x72 == 1) then r76.2.2.1 else r74.2.2.1)
    let x98 : Int := (bif (x72 == 1) then r76.2.2.2.1 else r74.2.2.2.1)
    let x99 : Int := (bif (x72 == 1) then r76.2.2.2.2.1 else r74.2.2.2.2.1)
    bif (!(x72 == 1) || ((spec_l01Src_n_v2 r74.2.1 r74.2.2.1 r74.2.2.2.1 r74.2.2.2.2.1 9).isSome)) && (!(x72 == 1) || ((spec_l01Src_bytes_v2 r75.2.1 r75.2.2.1 r75.2.2.2.1 r75.2.2.2.2.1 r75.1).isSome)) then
      (spec_l01Src_one_v2 l96 x97 x98 x99 25).bind fun r100 =>
      let r101 : Int × List Int × Int × Int × Int × Unit := (spec_l01Src_n_v2 r100.2.1 r100.2.2.1 r100.2.2.2.1 r100.2.2.2.2.1 2).getD (0, [], 0, 0, 0, ())
      let x102 : Int := (wrap64 ((4 : Int) * r101.1))
      let x103 : Int := (bif r100.1 then x77 else x77)
      let x107 : Int := (bif r100.1 then x81 else x81)
      let x109 : Int := (bif r100.1 then x83 else x83)
      let s113 : ByteArray := (bif r100.1 then s86 else s86)
      let s114 : ByteArray := (bif r100.1 then s87 else s87)
      let x115 : Int := (bif r100.1 then x88 else x88)
      let b116 : Bool := (bif r100.1 then b89 else b89)
      let s117 : ByteArray := (bif r100.1 then s90 else s90)
      let s118 : ByteArray := (bif r100.1 then s91 else s91)
      let x119 : Int := (bif r100.1 then x92 else x92)
      let b120 : Bool := (bif r100.1 then b93 else b93)
      let l121 : List (Int × Int × Int × ByteArray) := (bif r100.1 then l94 else l94)
      let x122 : Int := (bif r100.1 then x102 else x80)
      let s123 : ByteArray := (bif r100.1 then s95 else s95)
      let l124 : List Int := (bif r100.1 then r101.2.1 else r100.2.1)
      let x125 : Int := (bif r100.1 then r101.2.2.1 else r100.2.2.1)
      let x126 : Int := (bif r100.1 then r101.2.2.2.1 else r100.2.2.2.1)
      let x127 : Int := (bif r100.1 then r101.2.2.2.2.1 else r100.2.2.2.2.1)
      bif (!r100.1 || ((spec_l01Src_n_v2 r100.2.1 r100.2.2.1 r100.2.2.2.1 r100.2.2.2.2.1 2).isSome)) then
        (spec_l01Src_one_v2 l124 x125 x126 x127 25).bind fun r128 =>
        let r129 : Int × List Int × Int × Int × Int × Unit := (spec_l01Src_n_v2 r128.2.1 r128.2.2.1 r128.2.2.2.1 r128.2.2.2.2.1 2).getD (0, [], 0, 0, 0, ())
        let x130 : Int := (rd (.int .i64) ([-1, 4] : List Int) r129.1)
        let x131 : Int := (bif r128.1 then x103 else x103)
        let x137 : Int := (bif r128.1 then x109 else x109)
        let s142 : ByteArray := (bif r128.1 then s113 else s113)
        let s143 : ByteArray := (bif r128.1 then s114 else s114)
        let x144 : Int := (bif r128.1 then x115 else x115)
        let b145 : Bool := (bif r128.1 then b116 else b116)
        let s146 : ByteArray := (bif r128.1 then s117 else s117)
        let s147 : ByteArray := (bif r128.1 then s118 else s118)
        let x148 : Int := (bif r128.1 then x119 else x119)
        let b149 : Bool := (bif r128.1 then b120 else b120)
        let l150 : List (Int × Int × Int × ByteArray) := (bif r128.1 then l121 else l121)
        let x151 : Int := (bif r128.1 then x122 else x122)
        let x152 : Int := (bif r128.1 then x130 else x107)
        let s153 : ByteArray := (bif r128.1 then s123 else s123)
        let l154 : List Int := (bif r128.1 then r129.2.1 else r128.2.1)
        let x155 : Int := (bif r128.1 then r129.2.2.1 else r128.2.2.1)
        let x156 : Int := (bif r128.1 then r129.2.2.2.1 else r128.2.2.2.1)
        let x157 : Int := (bif r128.1 then r129.2.2.2.2.1 else r128.2.2.2.2.1)
        bif (!r128.1 || ((spec_l01Src_n_v2 r128.2.1 r128.2.2.1 r128.2.2.2.1 r128.2.2.2.2.1 2).isSome)) && (!r128.1 || (decide (0 ≤ r129.1) && decide (r129.1 < (([-1, 4] : List Int).length : Int)))) then
          let l158 : List (Int × Int × Int × ByteArray) := [(x151, x152, x137, s153)]
          bif roomy ((l150.length : Int) + (l158.length : Int)) 40 then
            rec (wrap64 (x131 - 1)) s142 s143 x144 b145 s146 s147 x148 b149 (l150 ++ l158) l154 x155 x156 x157
          else none
        else none
      else none
    else none
  else
    some (y1, y2, y3, y4, y5, y6, y7, y8, y9, ())
noncomputable def spec_DrawRunSerial_v3_l11 : Nat → Int → ByteArray → ByteArray → Int → Bool → ByteArray → ByteArray → Int → Bool → (List (Int × Int × Int × ByteArray)) → List Int → Int → Int → Int → Option ((ByteArray × ByteArray × Int × Bool × ByteArray × ByteArray × Int × Bool × List (Int × Int × Int × ByteArray) × Unit))
  | 0 => fun _ _ _ _ _ _ _ _ _ _ _ _ _ _ => none
  | n + 1 => spec_DrawRunSerial_v3_l11_step (spec_DrawRunSerial_v3_l11 n)
noncomputable def spec_DrawRunSerial_v3_l11.ent : LEntry := ⟨sk 2 (.cell (.fix (.ptr 2 0)) :: (sk 1 (.cell (.fix (.ptr 10 0)) :: (.cell (.fix (.ptr 5 0)) :: (.cell (.fix (.view 6 0)) :: (.cell (.val .bor (.int .i64)) :: (sk 85 []))))))), rk 2 ([.val .bor (.str), .val .bor (.str), .val .bor (.int .i64), .val .bor (.bool)] :: (rk 2 ([.val .bor (.str), .val .bor (.str), .val .bor (.int .i64), .val .bor (.bool)] :: ([.val .own (.slice (.pair (.int .i64) (.pair (.int .i64) (.pair (.int .i64) (.str)))))] :: (rk 3 ([.val .imm (.slice (.int .u8)), .val .bor (.int .i64), .val .bor (.int .u64), .val .bor (.int .i64)] :: (rk 82 []))))))), [(6, true, .pair (.int .i64) (.pair (.int .i64) (.pair (.int .i64) (.str))))], [], [⟨some 0, sk 2 (.cell (.fix (.ptr 2 0)) :: (sk 2 (.cell (.fix (.ptr 5 0)) :: (.cell (.fix (.view 6 0)) :: (sk 86 []))))), rk 2 ([.val .bor (.str), .val .bor (.str), .val .bor (.int .i64), .val .bor (.bool)] :: (rk 2 ([.val .bor (.str), .val .bor (.str), .val .bor (.int .i64), .val .bor (.bool)] :: ([.val .own (.slice (.pair (.int .i64) (.pair (.int .i64) (.pair (.int .i64) (.str)))))] :: (rk 86 []))))), [], []⟩], fun v => spec_DrawRunSerial_v3_l11 K0 v.1 v.2.1 v.2.2.1 v.2.2.2.1 v.2.2.2.2.1 v.2.2.2.2.2.1 v.2.2.2.2.2.2.1 v.2.2.2.2.2.2.2.1 v.2.2.2.2.2.2.2.2.1 v.2.2.2.2.2.2.2.2.2.1 v.2.2.2.2.2.2.2.2.2.2.1 v.2.2.2.2.2.2.2.2.2.2.2.1 v.2.2.2.2.2.2.2.2.2.2.2.2.1 v.2.2.2.2.2.2.2.2.2.2.2.2.2.1⟩
theorem spec_DrawRunSerial_v3_l11.eq : ∀ rec v, evStep spec_DrawRunSerial_v3.E11 (bodyAt 11 Go.Proofs.Try.f38) spec_DrawRunSerial_v3_l11.ent.ins spec_DrawRunSerial_v3_l11.ent.rts spec_DrawRunSerial_v3_l11.ent.hm spec_DrawRunSerial_v3_l11.ent.nl spec_DrawRunSerial_v3_l11.ent.xs rec v = spec_DrawRunSerial_v3_l11_step (fun c0 c1 c2 c3 c4 c5 c6 c7 c8 c9 c10 c11 c12 c13 => rec (c0, c1, c2, c3, c4, c5, c6, c7, c8, c9, c10, c11, c12, c13, ())) v.1 v.2.1 v.2.2.1 v.2.2.2.1 v.2.2.2.2.1 v.2.2.2.2.2.1 v.2.2.2.2.2.2.1 v.2.2.2.2.2.2.2.1 v.2.2.2.2.2.2.2.2.1 v.2.2.2.2.2.2.2.2.2.1 v.2.2.2.2.2.2.2.2.2.2.1 v.2.2.2.2.2.2.2.2.2.2.2.1 v.2.2.2.2.2.2.2.2.2.2.2.2.1 v.2.2.2.2.2.2.2.2.2.2.2.2.2.1 := by intro rec v; kernel_rfl
noncomputable def spec_DrawRunSerial_v3.E : Env := ⟨D, [], [(71, spec_l01Source_v3.ent), (73, spec_l01Src_n_v2.ent), (101, spec_l01Src_bytes_v2.ent), (72, spec_l01Src_one_v2.ent), (102, spec_l01Src_zeros.ent)], [(11, spec_DrawRunSerial_v3_l11.ent)]⟩
noncomputable def spec_DrawRunSerial_v3 (a0 : List Int) : Option (ByteArray × ByteArray × Int × Bool × List (Int × Int × Int × ByteArray) × Unit) :=
  (spec_l01Source_v3 a0).bind fun r1 =>
  (spec_l01Src_n_v2 r1.1 r1.2.1 r1.2.2.1 r1.2.2.2.1 4).bind fun r2 =>
  (spec_l01Src_bytes_v2 r2.2.1 r2.2.2.1 r2.2.2.2.1 r2.2.2.2.2.1 r2.1).bind fun r3 =>
  (spec_l01Src_n_v2 r3.2.1 r3.2.2.1 r3.2.2.2.1 r3.2.2.2.2.1 4).bind fun r4 =>
  (spec_l01Src_one_v2 r4.2.1 r4.2.2.1 r4.2.2.2.1 r4.2.2.2.2.1 5).bind fun r5 =>
  let s6 : ByteArray := (⟨#[111, 107]⟩ : ByteArray)
  (spec_l01Src_one_v2 r5.2.1 r5.2.2.1 r5.2.2.2.1 r5.2.2.2.2.1 20).bind fun r7 =>
  let r8 : Int × List Int × Int × Int × Int × Unit := (spec_l01Src_n_v2 r7.2.1 r7.2.2.1 r7.2.2.2.1 r7.2.2.2.2.1 2).getD (0, [], 0, 0, 0, ())
  let x9 : Int := (wrap64 ((16 : Int) + r8.1))
  let r10 : ByteArray × List Int × Int × Int × Int × Unit := (spec_l01Src_bytes_v2 r8.2.1 r8.2.2.1 r8.2.2.2.1 r8.2.2.2.2.1 x9).getD (ByteArray.empty, [], 0, 0, 0, ())
  let x14 : Int := (bif r7.1 then r4.1 else r4.1)
  let b15 : Bool := (bif r7.1 then r5.1 else r5.1)
  let s18 : ByteArray := (bif r7.1 then ByteArray.empty else ByteArray.empty)
  let s19 : ByteArray := (bif r7.1 then r10.1 else r3.1)
  let s20 : ByteArray := (bif r7.1 then s6 else s6)
  let l21 : List Int := (bif r7.1 then r10.2.1 else r7.2.1)
  let x22 : Int := (bif r7.1 then r10.2.2.1 else r7.2.2.1)
  let x23 : Int := (bif r7.1 then r10.2.2.2.1 else r7.2.2.2.1)
  let x24 : Int := (bif r7.1 then r10.2.2.2.2.1 else r7.2.2.2.2.1)
  bif (!r7.1 || ((spec_l01Src_n_v2 r7.2.1 r7.2.2.1 r7.2.2.2.1 r7.2.2.2.2.1 2).isSome)) && (!r7.1 || ((spec_l01Src_bytes_v2 r8.2.1 r8.2.2.1 r8.2.2.2.1 r8.2.2.2.2.1 x9).isSome)) then
    (spec_l01Src_one_v2 l21 x22 x23 x24 20).bind fun r25 =>
    let r26 : Int × List Int × Int × Int × Int × Unit := (spec_l01Src_n_v2 r25.2.1 r25.2.2.1 r25.2.2.2.1 r25.2.2.2.2.1 2).getD (0, [], 0, 0, 0, ())
    let x27 : Int := (rd (.int .i64) ([-1, 4] : List Int) r26.1)
    let b32 : Bool := (bif r25.1 then b15 else b15)
    let s36 : ByteArray := (bif r25.1 then s18 else s18)
    let x37 : Int := (bif r25.1 then (bif r7.1 then 0 else 0) else (bif r7.1 then 0 else 0))
    let b38 : Bool := (bif r25.1 then (r7.1 && false) else (r7.1 && false))
    let s39 : ByteArray := (bif r25.1 then s19 else s19)
    let s40 : ByteArray := (bif r25.1 then s20 else s20)
    let x41 : Int := (bif r25.1 then x27 else x14)
    let l42 : List Int := (bif r25.1 then r26.2.1 else r25.2.1)
    let x43 : Int := (bif r25.1 then r26.2.2.1 else r25.2.2.1)
    let x44 : Int := (bif r25.1 then r26.2.2.2.1 else r25.2.2.2.1)
    let x45 : Int := (bif r25.1 then r26.2.2.2.2.1 else r25.2.2.2.2.1)
    bif (!r25.1 || ((spec_l01Src_n_v2 r25.2.1 r25.2.2.1 r25.2.2.2.1 r25.2.2.2.2.1 2).isSome)) && (!r25.1 || (decide (0 ≤ r26.1) && decide (r26.1 < (([-1, 4] : List Int).length : Int)))) then
      (spec_l01Src_one_v2 l42 x43 x44 x45 30).bind fun r46 =>
      let r47 : Int × List Int × Int × Int × Int × Unit := (spec_l01Src_n_v2 r46.2.1 r46.2.2.1 r46.2.2.2.1 r46.2.2.2.2.1 3).getD (0, [], 0, 0, 0, ())
      let x48 : Int := (wrap64 ((65535 : Int) + r47.1))
      let r49 : ByteArray × Unit := (spec_l01Src_zeros r47.2.1 r47.2.2.1 r47.2.2.2.1 r47.2.2.2.2.1 x48).getD (ByteArray.empty, ())
      let b54 : Bool := (bif r46.1 then b32 else b32)
      let s59 : ByteArray := (bif r46.1 then s36 else s36)
      let x60 : Int := (bif r46.1 then x37 else x37)
      let b61 : Bool := (bif r46.1 then b38 else b38)
      let s62 : ByteArray := (bif r46.1 then s39 else s39)
      let s63 : ByteArray := (bif r46.1 then r49.1 else s40)
      let x64 : Int := (bif r46.1 then x41 else x41)
      let l65 : List Int := (bif r46.1 then r47.2.1 else r46.2.1)
      let x66 : Int := (bif r46.1 then r47.2.2.1 else r46.2.2.1)
      let x67 : Int := (bif r46.1 then r47.2.2.2.1 else r46.2.2.2.1)
      let x68 : Int := (bif r46.1 then r47.2.2.2.2.1 else r46.2.2.2.2.1)
      bif (!r46.1 || ((spec_l01Src_n_v2 r46.2.1 r46.2.2.1 r46.2.2.2.1 r46.2.2.2.2.1 3).isSome)) && (!r46.1 || ((spec_l01Src_zeros r47.2.1 r47.2.2.1 r47.2.2.2.1 r47.2.2.2.2.1 x48).isSome)) then
        let x69 : Int := (wrap64 ((10 : Int) + x68))
        (spec_l01Src_n_v2 l65 x66 x67 x68 x69).bind fun r70 =>
        (spec_DrawRunSerial_v3_l11 K0 r70.1 s59 s59 x60 b61 s62 s63 x64 b54 [] r70.2.1 r70.2.2.1 r70.2.2.2.1 r70.2.2.2.2.1).bind fun o159 =>
        some (o159.2.2.2.2.1, o159.2.2.2.2.2.1, o159.2.2.2.2.2.2.1, o159.2.2.2.2.2.2.2.1, o159.2.2.2.2.2.2.2.2.1, ())
      else none
    else none
  else none
noncomputable def spec_DrawRunSerial_v3.ent : Entry := ⟨[false], [.cell (.val .imm (.slice (.int .u8)))], [.agg [.val .bor (.str), .val .bor (.str), .val .bor (.int .i64), .val .bor (.bool)], .cell (.val .own (.slice (.pair (.int .i64) (.pair (.int .i64) (.pair (.int .i64) (.str))))))], [], fun v => spec_DrawRunSerial_v3 v.1⟩
theorem spec_DrawRunSerial_v3.eq : ∀ v, evFn spec_DrawRunSerial_v3.E Go.Proofs.Try.f38 spec_DrawRunSerial_v3.ent.ptrs spec_DrawRunSerial_v3.ent.ins spec_DrawRunSerial_v3.ent.rets spec_DrawRunSerial_v3.ent.outs v = spec_DrawRunSerial_v3.ent.f v := by intro v; kernel_rfl
theorem spec_DrawRunSerial_v3.fok : ∀ q ∈ [((71 : Nat), spec_l01Source_v3.ent), ((73 : Nat), spec_l01Src_n_v2.ent), ((101 : Nat), spec_l01Src_bytes_v2.ent), ((72 : Nat), spec_l01Src_one_v2.ent), ((102 : Nat), spec_l01Src_zeros.ent)], EntryOK Go.Proofs.Try.prog q.1 q.2 := by
  intro q hq
  simp only [List.mem_cons, List.mem_nil_iff, or_false] at hq
  rcases hq with rfl | rfl | rfl | rfl | rfl
  · exact spec_l01Source_v3.ok
  · exact spec_l01Src_n_v2.ok
  · exact spec_l01Src_bytes_v2.ok
  · exact spec_l01Src_one_v2.ok
  · exact spec_l01Src_zeros.ok
theorem spec_DrawRunSerial_v3_l11.it : ∀ n v, iter (evStep spec_DrawRunSerial_v3.E11 (bodyAt 11 Go.Proofs.Try.f38) spec_DrawRunSerial_v3_l11.ent.ins spec_DrawRunSerial_v3_l11.ent.rts spec_DrawRunSerial_v3_l11.ent.hm spec_DrawRunSerial_v3_l11.ent.nl spec_DrawRunSerial_v3_l11.ent.xs) n v = spec_DrawRunSerial_v3_l11 n v.1 v.2.1 v.2.2.1 v.2.2.2.1 v.2.2.2.2.1 v.2.2.2.2.2.1 v.2.2.2.2.2.2.1 v.2.2.2.2.2.2.2.1 v.2.2.2.2.2.2.2.2.1 v.2.2.2.2.2.2.2.2.2.1 v.2.2.2.2.2.2.2.2.2.2.1 v.2.2.2.2.2.2.2.2.2.2.2.1 v.2.2.2.2.2.2.2.2.2.2.2.2.1 v.2.2.2.2.2.2.2.2.2.2.2.2.2.1 := by
  intro n
  induction n with
  | zero => intro v; rfl
  | succ n ih =>
    intro v
    show (evStep spec_DrawRunSerial_v3.E11 (bodyAt 11 Go.Proofs.Try.f38) spec_DrawRunSerial_v3_l11.ent.ins spec_DrawRunSerial_v3_l11.ent.rts spec_DrawRunSerial_v3_l11.ent.hm spec_DrawRunSerial_v3_l11.ent.nl spec_DrawRunSerial_v3_l11.ent.xs) (iter (evStep spec_DrawRunSerial_v3.E11 (bodyAt 11 Go.Proofs.Try.f38) spec_DrawRunSerial_v3_l11.ent.ins spec_DrawRunSerial_v3_l11.ent.rts spec_DrawRunSerial_v3_l11.ent.hm spec_DrawRunSerial_v3_l11.ent.nl spec_DrawRunSerial_v3_l11.ent.xs) n) v = _
    rw [spec_DrawRunSerial_v3_l11.eq, show (fun c0 c1 c2 c3 c4 c5 c6 c7 c8 c9 c10 c11 c12 c13 => iter (evStep spec_DrawRunSerial_v3.E11 (bodyAt 11 Go.Proofs.Try.f38) spec_DrawRunSerial_v3_l11.ent.ins spec_DrawRunSerial_v3_l11.ent.rts spec_DrawRunSerial_v3_l11.ent.hm spec_DrawRunSerial_v3_l11.ent.nl spec_DrawRunSerial_v3_l11.ent.xs) n (c0, c1, c2, c3, c4, c5, c6, c7, c8, c9, c10, c11, c12, c13, ())) = spec_DrawRunSerial_v3_l11 n from by funext c0 c1 c2 c3 c4 c5 c6 c7 c8 c9 c10 c11 c12 c13; exact ih _]
    rfl
theorem spec_DrawRunSerial_v3_l11.fr : firstRegion (bodyAt 11 Go.Proofs.Try.f38) = 11 := by kernel_rfl
theorem spec_DrawRunSerial_v3_l11.ls : loopsOf (bodyAt 11 Go.Proofs.Try.f38) = [] := by kernel_rfl
theorem spec_DrawRunSerial_v3_l11.lok {E : Env} (hpin : spec_DrawRunSerial_v3.E11.pin = E.pin) (hfind : find 11 E.loops = some spec_DrawRunSerial_v3_l11.ent) : LoopOK Go.Proofs.Try.prog E (bodyAt 11 Go.Proofs.Try.f38) :=
  loop_of (E1 := spec_DrawRunSerial_v3.E11) (EnvOK.of dok spec_DrawRunSerial_v3.fok) mixed hpin (by rw [spec_DrawRunSerial_v3_l11.fr]; exact hfind) spec_DrawRunSerial_v3_l11.ls (by intro l hl; simp at hl) (fun v => (spec_DrawRunSerial_v3_l11.it K0 v).symm)
theorem spec_DrawRunSerial_v3.ls : loopsOf (bodyOf Go.Proofs.Try.f38) = [bodyAt 11 Go.Proofs.Try.f38] := by kernel_rfl
theorem spec_DrawRunSerial_v3.at_ : Go.Proofs.Try.prog.funcs[38]? = some Go.Proofs.Try.f38 := by kernel_rfl
theorem spec_DrawRunSerial_v3.bd : Go.Proofs.Try.f38.body = some (bodyOf Go.Proofs.Try.f38) := by kernel_rfl
theorem spec_DrawRunSerial_v3.nm : Go.Proofs.Try.f38.name ≠ "runtime.NumGoroutine" := by decide
theorem spec_DrawRunSerial_v3.ok : EntryOK Go.Proofs.Try.prog 38 spec_DrawRunSerial_v3.ent :=
  entry_ok (E := spec_DrawRunSerial_v3.E) (EnvOK.of dok spec_DrawRunSerial_v3.fok) mixed spec_DrawRunSerial_v3.at_ spec_DrawRunSerial_v3.bd spec_DrawRunSerial_v3.nm spec_DrawRunSerial_v3.ls (by intro l hl; simp only [List.mem_singleton] at hl; subst hl; exact spec_DrawRunSerial_v3_l11.lok rfl rfl) spec_DrawRunSerial_v3.eq
/-! ### loop.example/g00038/spec.l01Bool -/
noncomputable def spec_l01Bool.E : Env := ⟨D, [], [], []⟩
noncomputable def spec_l01Bool (a0 : Bool) : Option (Int × Unit) :=
  bif a0 then
    some (1, ())
  else
    some (0, ())
noncomputable def spec_l01Bool.ent : Entry := ⟨[false], [.cell (.val .bor (.bool))], [.cell (.val .bor (.int .i64))], [], fun v => spec_l01Bool v.1⟩
theorem spec_l01Bool.eq : ∀ v, evFn spec_l01Bool.E Go.Proofs.Try.f133 spec_l01Bool.ent.ptrs spec_l01Bool.ent.ins spec_l01Bool.ent.rets spec_l01Bool.ent.outs v = spec_l01Bool.ent.f v := by intro v; kernel_rfl
theorem spec_l01Bool.fok : ∀ q ∈ ([] : List (Nat × Entry)), EntryOK Go.Proofs.Try.prog q.1 q.2 := by intro q hq; simp at hq
theorem spec_l01Bool.ls : loopsOf (bodyOf Go.Proofs.Try.f133) = [] := by kernel_rfl
theorem spec_l01Bool.at_ : Go.Proofs.Try.prog.funcs[133]? = some Go.Proofs.Try.f133 := by kernel_rfl
theorem spec_l01Bool.bd : Go.Proofs.Try.f133.body = some (bodyOf Go.Proofs.Try.f133) := by kernel_rfl
theorem spec_l01Bool.nm : Go.Proofs.Try.f133.name ≠ "runtime.NumGoroutine" := by decide
theorem spec_l01Bool.ok : EntryOK Go.Proofs.Try.prog 133 spec_l01Bool.ent :=
  entry_ok (E := spec_l01Bool.E) (EnvOK.of dok spec_l01Bool.fok) mixed spec_l01Bool.at_ spec_l01Bool.bd spec_l01Bool.nm spec_l01Bool.ls (by intro l hl; simp at hl) spec_l01Bool.eq
/-! ### loop.example/g00038/spec.l01Mod -/
noncomputable def spec_l01Mod.E : Env := ⟨D, [], [], []⟩
noncomputable def spec_l01Mod (a0 : Int) (a1 : Int) : Option (Int × Unit) :=
  bif !(a1 == 0) then
    let b1 : Bool := decide ((Int.tmod a0 a1) < 0)
    let x2 : Int := (wrap64 ((Int.tmod a0 a1) + a1))
    let x3 : Int := (bif b1 then x2 else (Int.tmod a0 a1))
    some (x3, ())
  else none
noncomputable def spec_l01Mod.ent : Entry := ⟨[false, false], [.cell (.val .bor (.int .i64)), .cell (.val .bor (.int .i64))], [.cell (.val .bor (.int .i64))], [], fun v => spec_l01Mod v.1 v.2.1⟩
theorem spec_l01Mod.eq : ∀ v, evFn spec_l01Mod.E Go.Proofs.Try.f134 spec_l01Mod.ent.ptrs spec_l01Mod.ent.ins spec_l01Mod.ent.rets spec_l01Mod.ent.outs v = spec_l01Mod.ent.f v := by intro v; kernel_rfl
theorem spec_l01Mod.fok : ∀ q ∈ ([] : List (Nat × Entry)), EntryOK Go.Proofs.Try.prog q.1 q.2 := by intro q hq; simp at hq
theorem spec_l01Mod.ls : loopsOf (bodyOf Go.Proofs.Try.f134) = [] := by kernel_rfl
theorem spec_l01Mod.at_ : Go.Proofs.Try.prog.funcs[134]? = some Go.Proofs.Try.f134 := by kernel_rfl
theorem spec_l01Mod.bd : Go.Proofs.Try.f134.body = some (bodyOf Go.Proofs.Try.f134) := by kernel_rfl
theorem spec_l01Mod.nm : Go.Proofs.Try.f134.name ≠ "runtime.NumGoroutine" := by decide
theorem spec_l01Mod.ok : EntryOK Go.Proofs.Try.prog 134 spec_l01Mod.ent :=
  entry_ok (E := spec_l01Mod.E) (EnvOK.of dok spec_l01Mod.fok) mixed spec_l01Mod.at_ spec_l01Mod.bd spec_l01Mod.nm spec_l01Mod.ls (by intro l hl; simp at hl) spec_l01Mod.eq
/-! ### loop.example/g00038/spec.l11Serial -/
noncomputable def spec_l11Serial.E : Env := ⟨D, [], [(133, spec_l01Bool.ent), (134, spec_l01Mod.ent)], []⟩
noncomputable def spec_l11Serial (a0 : ByteArray) (a1 : ByteArray) (a2 : Int) (a3 : Bool) (a4 : Int) (a5 : Int) (a6 : Int) (a7 : ByteArray) : Option (ByteArray × ByteArray × Int × Bool × Int × Int × Unit) :=
  bif (a4 == 1) then
    let x1 : Int := (wrap64 ((16 : Int) - (a0.size : Int)))
    let b2 : Bool := decide ((a7.size : Int) > x1)
    let s3 : ByteArray := (a0 ++ (a7.extract 0 x1.toNat))
    let s7 : ByteArray := (bif b2 then s3 else (a0 ++ a7))
    bif (!b2 || (decide (0 ≤ x1) && decide (x1 ≤ (a7.size : Int)))) && ((!b2 || (joins a0 (a7.extract 0 x1.toNat))) && (!(!b2) || (joins a0 a7))) then
      some (s7, (bif b2 then a1 else a1), (bif b2 then a2 else a2), (b2 || a3), 0, 0, ())
    else none
  else
    let s9 : ByteArray := (bif decide (a5 < 0) then a0 else a0)
    let s10 : ByteArray := (bif decide (a5 < 0) then a1 else a1)
    let x11 : Int := (bif decide (a5 < 0) then a2 else a2)
    let b12 : Bool := (bif decide (a5 < 0) then a3 else a3)
    let x13 : Int := (bif decide (a5 < 0) then a4 else a4)
    let x14 : Int := (bif decide (a5 < 0) then a5 else a5)
    let x15 : Int := (bif decide (a5 < 0) then a6 else a6)
    let b19 : Bool := (bif decide (a5 < 0) then decide (a5 < 0) else decide (a5 > 3))
    let s26 : ByteArray := (bif ((a4 != 2) && (a4 != 3)) then a0 else s9)
    let s27 : ByteArray := (bif ((a4 != 2) && (a4 != 3)) then a1 else s10)
    let x28 : Int := (bif ((a4 != 2) && (a4 != 3)) then a2 else x11)
    let b29 : Bool := (bif ((a4 != 2) && (a4 != 3)) then a3 else b12)
    let x30 : Int := (bif ((a4 != 2) && (a4 != 3)) then a4 else x13)
    let x31 : Int := (bif ((a4 != 2) && (a4 != 3)) then a5 else x14)
    let x32 : Int := (bif ((a4 != 2) && (a4 != 3)) then a6 else x15)
    let b36 : Bool := (bif ((a4 != 2) && (a4 != 3)) then ((a4 != 2) && (a4 != 3)) else b19)
    bif b36 then
      some (s26, s27, x28, b29, 1, 0, ())
    else
    bif (x30 == 2) then
      bif (x31 == 0) then
        let b42 : Bool := seq s26 (⟨#[]⟩ : ByteArray)
        bif b42 then
          some (s26, s27, x28, b29, 0, 0, ())
        else
          bif decide (0 ≤ (0 : Int)) && decide ((0 : Int) < (s26.size : Int)) then
            bif decide (0 ≤ (1 : Int)) && decide ((1 : Int) ≤ (s26.size : Int)) then
              some (s26.extract 1 s26.size, s27, x28, b29, 0, (wrap64 (bt s26 0)), ())
            else none
          else none
      else
      bif (x31 == 1) then
        let b43 : Bool := !seq s26 (⟨#[]⟩ : ByteArray)
        (spec_l01Bool b43).bind fun r44 =>
        (spec_l01Bool b29).bind fun r45 =>
        let x46 : Int := (wrap64 ((4 : Int) * r45.1))
        let x47 : Int := (wrap64 ((wrap64 (r44.1 + 2)) + x46))
        some (s26, s27, x28, b29, 0, x47, ())
      else
      bif (x31 == 2) then
        some (s26, s27, x28, b29, 0, x28, ())
      else
        some (s26, s27, x28, b29, 0, 0, ())
    else
      let b48 : Bool := decide ((s27.size : Int) < 65536)
      let l49 : List Int := [(IntKind.u8.wrap (x32))]
      let s50 : ByteArray := (bif b48 then s26 else s26)
      let x52 : Int := (bif b48 then x28 else x28)
      let b53 : Bool := (bif b48 then b29 else b29)
      let s68 : ByteArray := (bif b48 then (s27 ++ (b2s l49)) else s27)
      let r71 : Int × Unit := (spec_l01Mod x32 4).getD (0, ())
      let s73 : ByteArray := (bif (x31 == 3) then s27 else s27)
      let x74 : Int := (bif (x31 == 3) then x28 else x28)
      let s90 : ByteArray := (bif (x31 == 3) then (⟨#[]⟩ : ByteArray) else s26)
      let b91 : Bool := (bif (x31 == 3) then false else b29)
      let s95 : ByteArray := (bif (x31 == 2) then s27 else s73)
      let s111 : ByteArray := (bif (x31 == 2) then s26 else s90)
      let x112 : Int := (bif (x31 == 2) then r71.1 else x74)
      let b113 : Bool := (bif (x31 == 2) then b29 else b91)
      let s132 : ByteArray := (bif (x31 == 0) then s50 else s111)
      let s133 : ByteArray := (bif (x31 == 0) then s68 else s95)
      let x134 : Int := (bif (x31 == 0) then x52 else x112)
      let b135 : Bool := (bif (x31 == 0) then b53 else b113)
      bif (!(x31 == 0) || (!b48 || (joins s27 (b2s l49)))) && (!(!(x31 == 0)) || (!(x31 == 2) || ((spec_l01Mod x32 4).isSome))) then
        some (s132, s133, x134, b135, 0, 0, ())
      else none
noncomputable def spec_l11Serial.ent : Entry := ⟨[false, false], [.agg [.val .bor (.str), .val .bor (.str), .val .bor (.int .i64), .val .bor (.bool)], .agg [.val .bor (.int .i64), .val .bor (.int .i64), .val .bor (.int .i64), .val .bor (.str)]], [.agg [.val .bor (.str), .val .bor (.str), .val .bor (.int .i64), .val .bor (.bool)], .cell (.val .bor (.int .i64)), .cell (.val .bor (.int .i64))], [], fun v => spec_l11Serial v.1 v.2.1 v.2.2.1 v.2.2.2.1 v.2.2.2.2.1 v.2.2.2.2.2.1 v.2.2.2.2.2.2.1 v.2.2.2.2.2.2.2.1⟩
theorem spec_l11Serial.eq : ∀ v, evFn spec_l11Serial.E Go.Proofs.Try.f92 spec_l11Serial.ent.ptrs spec_l11Serial.ent.ins spec_l11Serial.ent.rets spec_l11Serial.ent.outs v = spec_l11Serial.ent.f v := by intro v; kernel_rfl
theorem spec_l11Serial.fok : ∀ q ∈ [((133 : Nat), spec_l01Bool.ent), ((134 : Nat), spec_l01Mod.ent)], EntryOK Go.Proofs.Try.prog q.1 q.2 := by
  intro q hq
  simp only [List.mem_cons, List.mem_nil_iff, or_false] at hq
  rcases hq with rfl | rfl
  · exact spec_l01Bool.ok
  · exact spec_l01Mod.ok
theorem spec_l11Serial.ls : loopsOf (bodyOf Go.Proofs.Try.f92) = [] := by kernel_rfl
theorem spec_l11Serial.at_ : Go.Proofs.Try.prog.funcs[92]? = some Go.Proofs.Try.f92 := by kernel_rfl
theorem spec_l11Serial.bd : Go.Proofs.Try.f92.body = some (bodyOf Go.Proofs.Try.f92) := by kernel_rfl
theorem spec_l11Serial.nm : Go.Proofs.Try.f92.name ≠ "runtime.NumGoroutine" := by decide
theorem spec_l11Serial.ok : EntryOK Go.Proofs.Try.prog 92 spec_l11Serial.ent :=
  entry_ok (E := spec_l11Serial.E) (EnvOK.of dok spec_l11Serial.fok) mixed spec_l11Serial.at_ spec_l11Serial.bd spec_l11Serial.nm spec_l11Serial.ls (by intro l hl; simp at hl) spec_l11Serial.eq
/-! ### loop.example/g00038/spec.RunSerial -/
noncomputable def spec_RunSerial.E7 : Env := ⟨D, [], [(92, spec_l11Serial.ent)], []⟩
noncomputable def spec_RunSerial_l7_step (rec : (List (Int × Int × Int × ByteArray)) → Int → ByteArray → ByteArray → Int → Bool → Int → ByteArray → ByteArray → Int → Bool → (List (Int × Int × Bool)) → Option ((ByteArray × ByteArray × Int × Bool × Int × ByteArray × ByteArray × Int × Bool × List (Int × Int × Bool) × Unit))) (y0 : List (Int × Int × Int × ByteArray)) (y1 : Int) (y2 : ByteArray) (y3 : ByteArray) (y4 : Int) (y5 : Bool) (y6 : Int) (y7 : ByteArray) (y8 : ByteArray) (y9 : Int) (y10 : Bool) (y11 : List (Int × Int × Bool)) : Option ((ByteArray × ByteArray × Int × Bool × Int × ByteArray × ByteArray × Int × Bool × List (Int × Int × Bool) × Unit)) :=
  let b5 : Bool := decide (y1 < (y0.length : Int))
  bif b5 then
    let e6 : Int × Int × Int × ByteArray := rd R1 y0 y1
    (spec_l11Serial y2 y3 y4 y5 e6.1 e6.2.1 e6.2.2.1 e6.2.2.2).bind fun r7 =>
    bif decide (0 ≤ y1) && decide (y1 < (y0.length : Int)) then
      let b8 : Bool := ((Int.tmod r7.2.2.1 2) == 1)
      let b9 : Bool := !seq r7.1 (⟨#[]⟩ : ByteArray)
      let b10 : Bool := ((b8 && b9) || decide (r7.2.2.1 ≥ 2))
      bif !((2 : Int) == 0) then
        let l11 : List (Int × Int × Bool) := [(r7.2.2.2.2.1, r7.2.2.2.2.2.1, b10)]
        bif roomy ((y11.length : Int) + (l11.length : Int)) 24 then
          rec y0 (wrap64 (y1 + 1)) r7.1 r7.2.1 r7.2.2.1 r7.2.2.2.1 y6 y7 y8 y9 y10 (y11 ++ l11)
        else none
      else none
    else none
  else
    some (y2, y3, y4, y5, y6, y7, y8, y9, y10, y11, ())
noncomputable def spec_RunSerial_l7 : Nat → (List (Int × Int × Int × ByteArray)) → Int → ByteArray → ByteArray → Int → Bool → Int → ByteArray → ByteArray → Int → Bool → (List (Int × Int × Bool)) → Option ((ByteArray × ByteArray × Int × Bool × Int × ByteArray × ByteArray × Int × Bool × List (Int × Int × Bool) × Unit))
  | 0 => fun _ _ _ _ _ _ _ _ _ _ _ _ => none
  | n + 1 => spec_RunSerial_l7_step (spec_RunSerial_l7 n)
noncomputable def spec_RunSerial_l7.ent : LEntry := ⟨sk 1 (.cell (.val .bor (.slice (.pair (.int .i64) (.pair (.int .i64) (.pair (.int .i64) (.str)))))) :: (.cell (.fix (.ptr 2 0)) :: (sk 1 (.cell (.fix (.ptr 4 0)) :: (.cell (.fix (.view 5 0)) :: (.cell (.val .bor (.int .i64)) :: (sk 72 []))))))), rk 2 ([.val .bor (.str), .val .bor (.str), .val .bor (.int .i64), .val .bor (.bool)] :: (rk 1 ([.val .bor (.int .i64), .val .bor (.str), .val .bor (.str), .val .bor (.int .i64), .val .bor (.bool), .fix (.nil)] :: ([.val .own (.slice (.pair (.int .i64) (.pair (.int .i64) (.bool))))] :: (rk 73 []))))), [(5, true, .pair (.int .i64) (.pair (.int .i64) (.bool)))], [], [⟨some 0, sk 2 (.cell (.fix (.ptr 2 0)) :: (sk 1 (.cell (.fix (.ptr 4 0)) :: (.cell (.fix (.view 5 0)) :: (sk 73 []))))), rk 2 ([.val .bor (.str), .val .bor (.str), .val .bor (.int .i64), .val .bor (.bool)] :: (rk 1 ([.val .bor (.int .i64), .val .bor (.str), .val .bor (.str), .val .bor (.int .i64), .val .bor (.bool), .fix (.nil)] :: ([.val .own (.slice (.pair (.int .i64) (.pair (.int .i64) (.bool))))] :: (rk 73 []))))), [], []⟩], fun v => spec_RunSerial_l7 K0 v.1 v.2.1 v.2.2.1 v.2.2.2.1 v.2.2.2.2.1 v.2.2.2.2.2.1 v.2.2.2.2.2.2.1 v.2.2.2.2.2.2.2.1 v.2.2.2.2.2.2.2.2.1 v.2.2.2.2.2.2.2.2.2.1 v.2.2.2.2.2.2.2.2.2.2.1 v.2.2.2.2.2.2.2.2.2.2.2.1⟩
theorem spec_RunSerial_l7.eq : ∀ rec v, evStep spec_RunSerial.E7 (bodyAt 7 Go.Proofs.Try.f29) spec_RunSerial_l7.ent.ins spec_RunSerial_l7.ent.rts spec_RunSerial_l7.ent.hm spec_RunSerial_l7.ent.nl spec_RunSerial_l7.ent.xs rec v = spec_RunSerial_l7_step (fun c0 c1 c2 c3 c4 c5 c6 c7 c8 c9 c10 c11 => rec (c0, c1, c2, c3, c4, c5, c6, c7, c8, c9, c10, c11, ())) v.1 v.2.1 v.2.2.1 v.2.2.2.1 v.2.2.2.2.1 v.2.2.2.2.2.1 v.2.2.2.2.2.2.1 v.2.2.2.2.2.2.2.1 v.2.2.2.2.2.2.2.2.1 v.2.2.2.2.2.2.2.2.2.1 v.2.2.2.2.2.2.2.2.2.2.1 v.2.2.2.2.2.2.2.2.2.2.2.1 := by intro rec v; kernel_rfl
noncomputable def spec_RunSerial.E : Env := ⟨D, [], [(92, spec_l11Serial.ent)], [(7, spec_RunSerial_l7.ent)]⟩
noncomputable def spec_RunSerial (a0 : ByteArray) (a1 : ByteArray) (a2 : Int) (a3 : Bool) (a4 : List (Int × Int × Int × ByteArray)) : Option (Int × ByteArray × ByteArray × Int × Bool × List (Int × Int × Bool) × Unit) :=
  let b1 : Bool := decide ((a4.length : Int) > 1000)
  bif b1 then
    some (2, ByteArray.empty, ByteArray.empty, 0, false, [], ())
  else
    let b2 : Bool := decide ((a0.size : Int) > 16)
    let b3 : Bool := decide ((a1.size : Int) > 65536)
    let b4 : Bool := ((b2 || b3) || decide (a2 < 0))
    bif (b4 || decide (a2 > 3)) then
      some (1, ByteArray.empty, ByteArray.empty, 0, false, [], ())
    else
      (spec_RunSerial_l7 K0 a4 0 a0 a1 a2 a3 0 ByteArray.empty ByteArray.empty 0 false []).bind fun o12 =>
      some (0, o12.1, o12.2.1, o12.2.2.1, o12.2.2.2.1, o12.2.2.2.2.2.2.2.2.2.1, ())
noncomputable def spec_RunSerial.ent : Entry := ⟨[false, false], [.agg [.val .bor (.str), .val .bor (.str), .val .bor (.int .i64), .val .bor (.bool)], .cell (.val .bor (.slice (.pair (.int .i64) (.pair (.int .i64) (.pair (.int .i64) (.str))))))], [.agg [.val .bor (.int .i64), .val .bor (.str), .val .bor (.str), .val .bor (.int .i64), .val .bor (.bool), .val .own (.slice (.pair (.int .i64) (.pair (.int .i64) (.bool))))]], [], fun v => spec_RunSerial v.1 v.2.1 v.2.2.1 v.2.2.2.1 v.2.2.2.2.1⟩
theorem spec_RunSerial.eq : ∀ v, evFn spec_RunSerial.E Go.Proofs.Try.f29 spec_RunSerial.ent.ptrs spec_RunSerial.ent.ins spec_RunSerial.ent.rets spec_RunSerial.ent.outs v = spec_RunSerial.ent.f v := by intro v; kernel_rfl
theorem spec_RunSerial.fok : ∀ q ∈ [((92 : Nat), spec_l11Serial.ent)], EntryOK Go.Proofs.Try.prog q.1 q.2 := by
  intro q hq
  simp only [List.mem_cons, List.mem_nil_iff, or_false] at hq
  rcases hq with rfl
  · exact spec_l11Serial.ok
theorem spec_RunSerial_l7.it : ∀ n v, iter (evStep spec_RunSerial.E7 (bodyAt 7 Go.Proofs.Try.f29) spec_RunSerial_l7.ent.ins spec_RunSerial_l7.ent.rts spec_RunSerial_l7.ent.hm spec_RunSerial_l7.ent.nl spec_RunSerial_l7.ent.xs) n v = spec_RunSerial_l7 n v.1 v.2.1 v.2.2.1 v.2.2.2.1 v.2.2.2.2.1 v.2.2.2.2.2.1 v.2.2.2.2.2.2.1 v.2.2.2.2.2.2.2.1 v.2.2.2.2.2.2.2.2.1 v.2.2.2.2.2.2.2.2.2.1 v.2.2.2.2.2.2.2.2.2.2.1 v.2.2.2.2.2.2.2.2.2.2.2.1 := by
  intro n
  induction n with
  | zero => intro v; rfl
  | succ n ih =>
    intro v
    show (evStep spec_RunSerial.E7 (bodyAt 7 Go.Proofs.Try.f29) spec_RunSerial_l7.ent.ins spec_RunSerial_l7.ent.rts spec_RunSerial_l7.ent.hm spec_RunSerial_l7.ent.nl spec_RunSerial_l7.ent.xs) (iter (evStep spec_RunSerial.E7 (bodyAt 7 Go.Proofs.Try.f29) spec_RunSerial_l7.ent.ins spec_RunSerial_l7.ent.rts spec_RunSerial_l7.ent.hm spec_RunSerial_l7.ent.nl spec_RunSerial_l7.ent.xs) n) v = _
    rw [spec_RunSerial_l7.eq, show (fun c0 c1 c2 c3 c4 c5 c6 c7 c8 c9 c10 c11 => iter (evStep spec_RunSerial.E7 (bodyAt 7 Go.Proofs.Try.f29) spec_RunSerial_l7.ent.ins spec_RunSerial_l7.ent.rts spec_RunSerial_l7.ent.hm spec_RunSerial_l7.ent.nl spec_RunSerial_l7.ent.xs) n (c0, c1, c2, c3, c4, c5, c6, c7, c8, c9, c10, c11, ())) = spec_RunSerial_l7 n from by funext c0 c1 c2 c3 c4 c5 c6 c7 c8 c9 c10 c11; exact ih _]
    rfl
theorem spec_RunSerial_l7.fr : firstRegion (bodyAt 7 Go.Proofs.Try.f29) = 7 := by kernel_rfl
theorem spec_RunSerial_l7.ls : loopsOf (bodyAt 7 Go.Proofs.Try.f29) = [] := by kernel_rfl
theorem spec_RunSerial_l7.lok {E : Env} (hpin : spec_RunSerial.E7.pin = E.pin) (hfind : find 7 E.loops = some spec_RunSerial_l7.ent) : LoopOK Go.Proofs.Try.prog E (bodyAt 7 Go.Proofs.Try.f29) :=
  loop_of (E1 := spec_RunSerial.E7) (EnvOK.of dok spec_RunSerial.fok) mixed hpin (by rw [spec_RunSerial_l7.fr]; exact hfind) spec_RunSerial_l7.ls (by intro l hl; simp at hl) (fun v => (spec_RunSerial_l7.it K0 v).symm)
theorem spec_RunSerial.ls : loopsOf (bodyOf Go.Proofs.Try.f29) = [bodyAt 7 Go.Proofs.Try.f29] := by kernel_rfl
theorem spec_RunSerial.at_ : Go.Proofs.Try.prog.funcs[29]? = some Go.Proofs.Try.f29 := by kernel_rfl
theorem spec_RunSerial.bd : Go.Proofs.Try.f29.body = some (bodyOf Go.Proofs.Try.f29) := by kernel_rfl
theorem spec_RunSerial.nm : Go.Proofs.Try.f29.name ≠ "runtime.NumGoroutine" := by decide
theorem spec_RunSerial.ok : EntryOK Go.Proofs.Try.prog 29 spec_RunSerial.ent :=
  entry_ok (E := spec_RunSerial.E) (EnvOK.of dok spec_RunSerial.fok) mixed spec_RunSerial.at_ spec_RunSerial.bd spec_RunSerial.nm spec_RunSerial.ls (by intro l hl; simp only [List.mem_singleton] at hl; subst hl; exact spec_RunSerial_l7.lok rfl rfl) spec_RunSerial.eq
/-! ### loop.example/g00038/impl.yin -/
noncomputable def impl_yin.E : Env := ⟨D, [], [], []⟩
noncomputable def impl_yin (a0 : Int) (a1 : Int) (a2 : Int) : Option (Bool × Unit) :=
  let b1 : Bool := (decide (a0 ≥ a1) && decide (a0 ≤ a2))
  some (b1, ())
noncomputable def impl_yin.ent : Entry := ⟨[false, false, false], [.cell (.val .bor (.int .i64)), .cell (.val .bor (.int .i64)), .cell (.val .bor (.int .i64))], [.cell (.val .bor (.bool))], [], fun v => impl_yin v.1 v.2.1 v.2.2.1⟩
theorem impl_yin.eq : ∀ v, evFn impl_yin.E Go.Proofs.Try.f84 impl_yin.ent.ptrs impl_yin.ent.ins impl_yin.ent.rets impl_yin.ent.outs v = impl_yin.ent.f v := by intro v; kernel_rfl
theorem impl_yin.fok : ∀ q ∈ ([] : List (Nat × Entry)), EntryOK Go.Proofs.Try.prog q.1 q.2 := by intro q hq; simp at hq
theorem impl_yin.ls : loopsOf (bodyOf Go.Proofs.Try.f84) = [] := by kernel_rfl
theorem impl_yin.at_ : Go.Proofs.Try.prog.funcs[84]? = some Go.Proofs.Try.f84 := by kernel_rfl
theorem impl_yin.bd : Go.Proofs.Try.f84.body = some (bodyOf Go.Proofs.Try.f84) := by kernel_rfl
theorem impl_yin.nm : Go.Proofs.Try.f84.name ≠ "runtime.NumGoroutine" := by decide
theorem impl_yin.ok : EntryOK Go.Proofs.Try.prog 84 impl_yin.ent :=
  entry_ok (E := impl_yin.E) (EnvOK.of dok impl_yin.fok) mixed impl_yin.at_ impl_yin.bd impl_yin.nm impl_yin.ls (by intro l hl; simp at hl) impl_yin.eq
/-! ### (*loop.example/g00038/impl.Serial).ydo -/
noncomputable def impl_Serial_ydo_v2.E : Env := ⟨D, [0], [(84, impl_yin.ent)], []⟩
noncomputable def impl_Serial_ydo_v2 (a0 : ByteArray) (a1 : ByteArray) (a2 : Int) (a3 : Bool) (a4 : Int) (a5 : Int) (a6 : Int) (a7 : ByteArray) : Option (Int × Int × ByteArray × ByteArray × Int × Bool × Unit) :=
  let r1 : Bool × Unit := (impl_yin a5 0 3).getD (false, ())
  bif (!(a4 != 1) || ((impl_yin a5 0 3).isSome)) then
    bif ((a4 != 1) && !r1.1) then
      some (1, 0, a0, a1, a2, a3, ())
    else
    bif (a4 == 1) then
      let x2 : Int := (wrap64 ((16 : Int) - (a0.size : Int)))
      let x3 : Int := (bif decide (x2 < (a7.size : Int)) then x2 else (a7.size : Int))
      let s4 : ByteArray := (a0 ++ (a7.extract 0 x3.toNat))
      bif (decide (0 ≤ x3) && decide (x3 ≤ (a7.size : Int))) && (joins a0 (a7.extract 0 x3.toNat)) then
        let b5 : Bool := decide (x3 < (a7.size : Int))
        some (0, 0, s4, a1, a2, (a3 || b5), ())
      else none
    else
    bif (a4 == 2) then
      bif (a5 == 0) then
        let b6 : Bool := seq a0 (⟨#[]⟩ : ByteArray)
        bif b6 then
          some (0, 0, a0, a1, a2, a3, ())
        else
          bif decide (0 ≤ (0 : Int)) && decide ((0 : Int) < (a0.size : Int)) then
            bif decide (0 ≤ (1 : Int)) && decide ((1 : Int) ≤ (a0.size : Int)) then
              some (0, (wrap64 (bt a0 0)), a0.extract 1 a0.size, a1, a2, a3, ())
            else none
          else none
      else
      bif (a5 == 1) then
        let b7 : Bool := !seq a0 (⟨#[]⟩ : ByteArray)
        let x8 : Int := (bif b7 then (bits .or .i64 2 1) else 2)
        let x22 : Int := (bif (bif b7 then a3 else a3) then (bits .or .i64 x8 4) else x8)
        let s31 : ByteArray := (bif (bif b7 then a3 else a3) then (bif b7 then a0 else a0) else (bif b7 then a0 else a0))
        let b33 : Bool := (bif (bif b7 then a3 else a3) then (bif b7 then a3 else a3) else (bif b7 then a3 else a3))
        let s34 : ByteArray := (bif (bif b7 then a3 else a3) then (bif b7 then a1 else a1) else (bif b7 then a1 else a1))
        let x35 : Int := (bif (bif b7 then a3 else a3) then (bif b7 then a2 else a2) else (bif b7 then a2 else a2))
        some (0, x22, s31, s34, x35, b33, ())
      else
      bif (a5 == 2) then
        some (0, a2, a0, a1, a2, a3, ())
      else
        some (0, 0, a0, a1, a2, a3, ())
    else
    bif (a4 == 3) then
      let b36 : Bool := decide ((a1.size : Int) < 65536)
      let s37 : ByteArray := b2s [(IntKind.u8.wrap (a6))]
      let s53 : ByteArray := (bif b36 then a0 else a0)
      let s54 : ByteArray := (bif b36 then (a1 ++ s37) else a1)
      let x55 : Int := (bif b36 then a2 else a2)
      let b56 : Bool := (bif b36 then a3 else a3)
      let s72 : ByteArray := (bif (a5 == 3) then (⟨#[]⟩ : ByteArray) else a0)
      let s73 : ByteArray := (bif (a5 == 3) then a1 else a1)
      let x74 : Int := (bif (a5 == 3) then a2 else a2)
      let b75 : Bool := (bif (a5 == 3) then false else a3)
      let s90 : ByteArray := (bif (a5 == 2) then a0 else s72)
      let s91 : ByteArray := (bif (a5 == 2) then a1 else s73)
      let x92 : Int := (bif (a5 == 2) then (bits .and .i64 a6 3) else x74)
      let b93 : Bool := (bif (a5 == 2) then a3 else b75)
      let s107 : ByteArray := (bif (a5 == 0) then s53 else s90)
      let s108 : ByteArray := (bif (a5 == 0) then s54 else s91)
      let x109 : Int := (bif (a5 == 0) then x55 else x92)
      let b110 : Bool := (bif (a5 == 0) then b56 else b93)
      bif (!(a5 == 0) || (!b36 || (joins a1 s37))) then
        some (0, 0, s107, s108, x109, b110, ())
      else none
    else
      some (1, 0, a0, a1, a2, a3, ())
  else none
noncomputable def impl_Serial_ydo_v2.ent : Entry := ⟨[true, false], [.agg [.val .bor (.str), .val .bor (.str), .val .bor (.int .i64), .val .bor (.bool)], .agg [.val .bor (.int .i64), .val .bor (.int .i64), .val .bor (.int .i64), .val .bor (.str)]], [.cell (.val .bor (.int .i64)), .cell (.val .bor (.int .i64))], [.agg [.val .bor (.str), .val .bor (.str), .val .bor (.int .i64), .val .bor (.bool)]], fun v => impl_Serial_ydo_v2 v.1 v.2.1 v.2.2.1 v.2.2.2.1 v.2.2.2.2.1 v.2.2.2.2.2.1 v.2.2.2.2.2.2.1 v.2.2.2.2.2.2.2.1⟩
theorem impl_Serial_ydo_v2.eq : ∀ v, evFn impl_Serial_ydo_v2.E Go.Proofs.Try.f94 impl_Serial_ydo_v2.ent.ptrs impl_Serial_ydo_v2.ent.ins impl_Serial_ydo_v2.ent.rets impl_Serial_ydo_v2.ent.outs v = impl_Serial_ydo_v2.ent.f v := by intro v; kernel_rfl
theorem impl_Serial_ydo_v2.fok : ∀ q ∈ [((84 : Nat), impl_yin.ent)], EntryOK Go.Proofs.Try.prog q.1 q.2 := by
  intro q hq
  simp only [List.mem_cons, List.mem_nil_iff, or_false] at hq
  rcases hq with rfl
  · exact impl_yin.ok
theorem impl_Serial_ydo_v2.ls : loopsOf (bodyOf Go.Proofs.Try.f94) = [] := by kernel_rfl
theorem impl_Serial_ydo_v2.at_ : Go.Proofs.Try.prog.funcs[94]? = some Go.Proofs.Try.f94 := by kernel_rfl
theorem impl_Serial_ydo_v2.bd : Go.Proofs.Try.f94.body = some (bodyOf Go.Proofs.Try.f94) := by kernel_rfl
theorem impl_Serial_ydo_v2.nm : Go.Proofs.Try.f94.name ≠ "runtime.NumGoroutine" := by decide
theorem impl_Serial_ydo_v2.ok : EntryOK Go.Proofs.Try.prog 94 impl_Serial_ydo_v2.ent :=
  entry_ok (E := impl_Serial_ydo_v2.E) (EnvOK.of dok impl_Serial_ydo_v2.fok) mixed impl_Serial_ydo_v2.at_ impl_Serial_ydo_v2.bd impl_Serial_ydo_v2.nm impl_Serial_ydo_v2.ls (by intro l hl; simp at hl) impl_Serial_ydo_v2.eq
/-! ### loop.example/g00038/impl.RunSerial -/
noncomputable def impl_RunSerial.E7 : Env := ⟨D, [], [(84, impl_yin.ent), (94, impl_Serial_ydo_v2.ent)], []⟩
noncomputable def impl_RunSerial_l7_step (rec : (List (Int × Int × Int × ByteArray)) → Int → Int → ByteArray → ByteArray → Int → Bool → Int → ByteArray → ByteArray → Int → Bool → (List (Int × Int × Bool)) → Option ((ByteArray × ByteArray × Int × Bool × Int × ByteArray × ByteArray × Int × Bool × List (Int × Int × Bool) × Unit))) (y0 : List (Int × Int × Int × ByteArray)) (y1 : Int) (y2 : Int) (y3 : ByteArray) (y4 : ByteArray) (y5 : Int) (y6 : Bool) (y7 : Int) (y8 : ByteArray) (y9 : ByteArray) (y10 : Int) (y11 : Bool) (y12 : List (Int × Int × Bool)) : Option ((ByteArray × ByteArray × Int × Bool × Int × ByteArray × ByteArray × Int × Bool × List (Int × Int × Bool) × Unit)) :=
  bif decide (y2 < y1) then
    let e11 : Int × Int × Int × ByteArray := rd R1 y0 y2
    bif decide (0 ≤ y2) && decide (y2 < (y0.length : Int)) then
      (impl_Serial_ydo_v2 y3 y4 y5 y6 e11.1 e11.2.1 e11.2.2.1 e11.2.2.2).bind fun r12 =>
      let x13 : Int := (bits .and .i64 r12.2.2.2.2.1 1)
      let b14 : Bool := !seq r12.2.2.1 (⟨#[]⟩ : ByteArray)
      let x15 : Int := (bits .and .i64 r12.2.2.2.2.1 2)
      let b16 : Bool := (((x13 != 0) && b14) || (x15 != 0))
      let l17 : List (Int × Int × Bool) := (y12 ++ [(r12.1, r12.2.1, b16)])
      bif roomy ((y12.length : Int) + ([(r12.1, r12.2.1, b16)].length : Int)) 24 then
        rec y0 y1 (wrap64 (y2 + 1)) r12.2.2.1 r12.2.2.2.1 r12.2.2.2.2.1 r12.2.2.2.2.2.1 y7 y8 y9 y10 y11 l17
      else none
    else none
  else
    some (y3, y4, y5, y6, y7, y8, y9, y10, y11, y12, ())
noncomputable def impl_RunSerial_l7 : Nat → (List (Int × Int × Int × ByteArray)) → Int → Int → ByteArray → ByteArray → Int → Bool → Int → ByteArray → ByteArray → Int → Bool → (List (Int × Int × Bool)) → Option ((ByteArray × ByteArray × Int × Bool × Int × ByteArray × ByteArray × Int × Bool × List (Int × Int × Bool) × Unit))
  | 0 => fun _ _ _ _ _ _ _ _ _ _ _ _ _ => none
  | n + 1 => impl_RunSerial_l7_step (impl_RunSerial_l7 n)
noncomputable def impl_RunSerial_l7.ent : LEntry := ⟨sk 2 (.cell (.fix (.ptr 2 0)) :: (sk 1 (.cell (.fix (.ptr 4 0)) :: (.cell (.fix (.view 5 0)) :: (sk 25 (.cell (.val .bor (.slice (.pair (.int .i64) (.pair (.int .i64) (.pair (.int .i64) (.str)))))) :: (.cell (.val .bor (.int .i64)) :: (.cell (.val .bor (.int .i64)) :: (sk 33 []))))))))), rk 2 ([.val .bor (.str), .val .bor (.str), .val .bor (.int .i64), .val .bor (.bool)] :: (rk 1 ([.val .bor (.int .i64), .val .bor (.str), .val .bor (.str), .val .bor (.int .i64), .val .bor (.bool), .fix (.nil)] :: ([.val .own (.slice (.pair (.int .i64) (.pair (.int .i64) (.bool))))] :: (rk 61 []))))), [(5, true, .pair (.int .i64) (.pair (.int .i64) (.bool)))], [], [⟨some 0, sk 2 (.cell (.fix (.ptr 2 0)) :: (sk 1 (.cell (.fix (.ptr 4 0)) :: (.cell (.fix (.view 5 0)) :: (sk 61 []))))), rk 2 ([.val .bor (.str), .val .bor (.str), .val .bor (.int .i64), .val .bor (.bool)] :: (rk 1 ([.val .bor (.int .i64), .val .bor (.str), .val .bor (.str), .val .bor (.int .i64), .val .bor (.bool), .fix (.nil)] :: ([.val .own (.slice (.pair (.int .i64) (.pair (.int .i64) (.bool))))] :: (rk 61 []))))), [], []⟩], fun v => impl_RunSerial_l7 K0 v.1 v.2.1 v.2.2.1 v.2.2.2.1 v.2.2.2.2.1 v.2.2.2.2.2.1 v.2.2.2.2.2.2.1 v.2.2.2.2.2.2.2.1 v.2.2.2.2.2.2.2.2.1 v.2.2.2.2.2.2.2.2.2.1 v.2.2.2.2.2.2.2.2.2.2.1 v.2.2.2.2.2.2.2.2.2.2.2.1 v.2.2.2.2.2.2.2.2.2.2.2.2.1⟩
theorem impl_RunSerial_l7.eq : ∀ rec v, evStep impl_RunSerial.E7 (bodyAt 7 Go.Proofs.Try.f32) impl_RunSerial_l7.ent.ins impl_RunSerial_l7.ent.rts impl_RunSerial_l7.ent.hm impl_RunSerial_l7.ent.nl impl_RunSerial_l7.ent.xs rec v = impl_RunSerial_l7_step (fun c0 c1 c2 c3 c4 c5 c6 c7 c8 c9 c10 c11 c12 => rec (c0, c1, c2, c3, c4, c5, c6, c7, c8, c9, c10, c11, c12, ())) v.1 v.2.1 v.2.2.1 v.2.2.2.1 v.2.2.2.2.1 v.2.2.2.2.2.1 v.2.2.2.2.2.2.1 v.2.2.2.2.2.2.2.1 v.2.2.2.2.2.2.2.2.1 v.2.2.2.2.2.2.2.2.2.1 v.2.2.2.2.2.2.2.2.2.2.1 v.2.2.2.2.2.2.2.2.2.2.2.1 v.2.2.2.2.2.2.2.2.2.2.2.2.1 := by intro rec v; kernel_rfl
noncomputable def impl_RunSerial.E : Env := ⟨D, [], [(84, impl_yin.ent), (94, impl_Serial_ydo_v2.ent)], [(7, impl_RunSerial_l7.ent)]⟩
noncomputable def impl_RunSerial (a0 : ByteArray) (a1 : ByteArray) (a2 : Int) (a3 : Bool) (a4 : List (Int × Int × Int × ByteArray)) : Option (Int × ByteArray × ByteArray × Int × Bool × List (Int × Int × Bool) × Unit) :=
  let b1 : Bool := decide ((a4.length : Int) > 1000)
  bif b1 then
    some (2, ByteArray.empty, ByteArray.empty, 0, false, [], ())
  else
    let b2 : Bool := decide ((a0.size : Int) > 16)
    let b3 : Bool := decide ((a1.size : Int) > 65536)
    let r4 : Bool × Unit := (impl_yin a2 0 3).getD (false, ())
    bif (!(!(b2 || b3)) || ((impl_yin a2 0 3).isSome)) then
      bif ((b2 || b3) || !r4.1) then
        some (1, ByteArray.empty, ByteArray.empty, 0, false, [], ())
      else
        (impl_RunSerial_l7 K0 a4 (a4.length : Int) 0 a0 a1 a2 a3 0 ByteArray.empty ByteArray.empty 0 false []).bind fun o18 =>
        some (0, o18.1, o18.2.1, o18.2.2.1, o18.2.2.2.1, o18.2.2.2.2.2.2.2.2.2.1, ())
    else none
noncomputable def impl_RunSerial.ent : Entry := ⟨[false, false], [.agg [.val .bor (.str), .val .bor (.str), .val .bor (.int .i64), .val .bor (.bool)], .cell (.val .bor (.slice (.pair (.int .i64) (.pair (.int .i64) (.pair (.int .i64) (.str))))))], [.agg [.val .bor (.int .i64), .val .bor (.str), .val .bor (.str), .val .bor (.int .i64), .val .bor (.bool), .val .own (.slice (.pair (.int .i64) (.pair (.int .i64) (.bool))))]], [], fun v => impl_RunSerial v.1 v.2.1 v.2.2.1 v.2.2.2.1 v.2.2.2.2.1⟩
theorem impl_RunSerial.eq : ∀ v, evFn impl_RunSerial.E Go.Proofs.Try.f32 impl_RunSerial.ent.ptrs impl_RunSerial.ent.ins impl_RunSerial.ent.rets impl_RunSerial.ent.outs v = impl_RunSerial.ent.f v := by intro v; kernel_rfl
theorem impl_RunSerial.fok : ∀ q ∈ [((84 : Nat), impl_yin.ent), ((94 : Nat), impl_Serial_ydo_v2.ent)], EntryOK Go.Proofs.Try.prog q.1 q.2 := by
  intro q hq
  simp only [List.mem_cons, List.mem_nil_iff, or_false] at hq
  rcases hq with rfl | rfl
  · exact impl_yin.ok
  · exact impl_Serial_ydo_v2.ok
theorem impl_RunSerial_l7.it : ∀ n v, iter (evStep impl_RunSerial.E7 (bodyAt 7 Go.Proofs.Try.f32) impl_RunSerial_l7.ent.ins impl_RunSerial_l7.ent.rts impl_RunSerial_l7.ent.hm impl_RunSerial_l7.ent.nl impl_RunSerial_l7.ent.xs) n v = impl_RunSerial_l7 n v.1 v.2.1 v.2.2.1 v.2.2.2.1 v.2.2.2.2.1 v.2.2.2.2.2.1 v.2.2.2.2.2.2.1 v.2.2.2.2.2.2.2.1 v.2.2.2.2.2.2.2.2.1 v.2.2.2.2.2.2.2.2.2.1 v.2.2.2.2.2.2.2.2.2.2.1 v.2.2.2.2.2.2.2.2.2.2.2.1 v.2.2.2.2.2.2.2.2.2.2.2.2.1 := by
  intro n
  induction n with
  | zero => intro v; rfl
  | succ n ih =>
    intro v
    show (evStep impl_RunSerial.E7 (bodyAt 7 Go.Proofs.Try.f32) impl_RunSerial_l7.ent.ins impl_RunSerial_l7.ent.rts impl_RunSerial_l7.ent.hm impl_RunSerial_l7.ent.nl impl_RunSerial_l7.ent.xs) (iter (evStep impl_RunSerial.E7 (bodyAt 7 Go.Proofs.Try.f32) impl_RunSerial_l7.ent.ins impl_RunSerial_l7.ent.rts impl_RunSerial_l7.ent.hm impl_RunSerial_l7.ent.nl impl_RunSerial_l7.ent.xs) n) v = _
    rw [impl_RunSerial_l7.eq, show (fun c0 c1 c2 c3 c4 c5 c6 c7 c8 c9 c10 c11 c12 => iter (evStep impl_RunSerial.E7 (bodyAt 7 Go.Proofs.Try.f32) impl_RunSerial_l7.ent.ins impl_RunSerial_l7.ent.rts impl_RunSerial_l7.ent.hm impl_RunSerial_l7.ent.nl impl_RunSerial_l7.ent.xs) n (c0, c1, c2, c3, c4, c5, c6, c7, c8, c9, c10, c11, c12, ())) = impl_RunSerial_l7 n from by funext c0 c1 c2 c3 c4 c5 c6 c7 c8 c9 c10 c11 c12; exact ih _]
    rfl
theorem impl_RunSerial_l7.fr : firstRegion (bodyAt 7 Go.Proofs.Try.f32) = 7 := by kernel_rfl
theorem impl_RunSerial_l7.ls : loopsOf (bodyAt 7 Go.Proofs.Try.f32) = [] := by kernel_rfl
theorem impl_RunSerial_l7.lok {E : Env} (hpin : impl_RunSerial.E7.pin = E.pin) (hfind : find 7 E.loops = some impl_RunSerial_l7.ent) : LoopOK Go.Proofs.Try.prog E (bodyAt 7 Go.Proofs.Try.f32) :=
  loop_of (E1 := impl_RunSerial.E7) (EnvOK.of dok impl_RunSerial.fok) mixed hpin (by rw [impl_RunSerial_l7.fr]; exact hfind) impl_RunSerial_l7.ls (by intro l hl; simp at hl) (fun v => (impl_RunSerial_l7.it K0 v).symm)
theorem impl_RunSerial.ls : loopsOf (bodyOf Go.Proofs.Try.f32) = [bodyAt 7 Go.Proofs.Try.f32] := by kernel_rfl
theorem impl_RunSerial.at_ : Go.Proofs.Try.prog.funcs[32]? = some Go.Proofs.Try.f32 := by kernel_rfl
theorem impl_RunSerial.bd : Go.Proofs.Try.f32.body = some (bodyOf Go.Proofs.Try.f32) := by kernel_rfl
theorem impl_RunSerial.nm : Go.Proofs.Try.f32.name ≠ "runtime.NumGoroutine" := by decide
theorem impl_RunSerial.ok : EntryOK Go.Proofs.Try.prog 32 impl_RunSerial.ent :=
  entry_ok (E := impl_RunSerial.E) (EnvOK.of dok impl_RunSerial.fok) mixed impl_RunSerial.at_ impl_RunSerial.bd impl_RunSerial.nm impl_RunSerial.ls (by intro l hl; simp only [List.mem_singleton] at hl; subst hl; exact impl_RunSerial_l7.lok rfl rfl) impl_RunSerial.eq
/-! ### loop.example/g00038/laws.FnSerialBytes -/
noncomputable def laws_FnSerialBytes.E12 : Env := ⟨D, [], [(38, spec_DrawRunSerial_v3.ent), (29, spec_RunSerial.ent), (32, impl_RunSerial.ent)], []⟩
noncomputable def laws_FnSerialBytes_l12_step (rec : ByteArray → Int → Int → ByteArray → ByteArray → Int → Bool → (List (Int × Int × Bool)) → Int → ByteArray → ByteArray → Int → Bool → (List (Int × Int × Bool)) → (List (Int × Int × Int × ByteArray)) → Option ((Bool × Unit) ⊕ (ByteArray × Int × ByteArray × ByteArray × Int × Bool × List (Int × Int × Bool) × Unit))) (y0 : ByteArray) (y1 : Int) (y2 : Int) (y3 : ByteArray) (y4 : ByteArray) (y5 : Int) (y6 : Bool) (y7 : List (Int × Int × Bool)) (y8 : Int) (y9 : ByteArray) (y10 : ByteArray) (y11 : Int) (y12 : Bool) (y13 : List (Int × Int × Bool)) (y14 : List (Int × Int × Int × ByteArray)) : Option ((Bool × Unit) ⊕ (ByteArray × Int × ByteArray × ByteArray × Int × Bool × List (Int × Int × Bool) × Unit)) :=
  let b10 : Bool := decide (y1 < (y14.length : Int))
  bif b10 then
    let e11 : Int × Int × Bool := rd R2 y13 y1
    let e12 : Int × Int × Bool := rd R2 y7 y1
    let b13 : Bool := !((e11.1 == e12.1) && ((e11.2.1 == e12.2.1) && (e11.2.2 == e12.2.2)))
    bif (decide (0 ≤ y1) && decide (y1 < (y13.length : Int))) && (decide (0 ≤ y1) && decide (y1 < (y7.length : Int))) then
      bif b13 then
        some (Sum.inl (false, ()))
      else
        let e14 : Int × Int × Int × ByteArray := rd R1 y14 y1
        bif decide (0 ≤ y1) && decide (y1 < (y14.length : Int)) then
          bif (e14.1 == 1) then
            let x15 : Int := (wrap64 ((16 : Int) - (y0.size : Int)))
            bif decide (0 ≤ y1) && decide (y1 < (y14.length : Int)) then
              let b16 : Bool := decide ((e14.2.2.2.size : Int) > x15)
              let s17 : ByteArray := e14.2.2.2.extract 0 x15.toNat
              let s18 : ByteArray := (bif b16 then y0 else y0)
              let x19 : Int := (bif b16 then y1 else y1)
              let s21 : ByteArray := (bif b16 then s17 else e14.2.2.2)
              let x37 : Int := (bif b16 then y2 else y2)
              let s38 : ByteArray := (bif b16 then y3 else y3)
              let s39 : ByteArray := (bif b16 then y4 else y4)
              let x40 : Int := (bif b16 then y5 else y5)
              let b41 : Bool := (bif b16 then y6 else y6)
              let l42 : List (Int × Int × Bool) := (bif b16 then y7 else y7)
              let x43 : Int := (bif b16 then y8 else y8)
              let s44 : ByteArray := (bif b16 then y9 else y9)
              let s45 : ByteArray := (bif b16 then y10 else y10)
              let x46 : Int := (bif b16 then y11 else y11)
              let b47 : Bool := (bif b16 then y12 else y12)
              let l48 : List (Int × Int × Bool) := (bif b16 then y13 else y13)
              let l49 : List (Int × Int × Int × ByteArray) := (bif b16 then y14 else y14)
              bif (!b16 || (decide (0 ≤ x15) && decide (x15 ≤ (e14.2.2.2.size : Int)))) then
                bif joins s18 s21 then
                  rec (s18 ++ s21) (wrap64 (x19 + 1)) x37 s38 s39 x40 b41 l42 x43 s44 s45 x46 b47 l48 l49
                else none
              else none
            else none
          else
            let b50 : Bool := ((e14.1 == 2) && (e14.2.1 == 0))
            let b51 : Bool := !seq y0 (⟨#[]⟩ : ByteArray)
            bif (decide (0 ≤ y1) && decide (y1 < (y14.length : Int))) && (!(e14.1 == 2) || (decide (0 ≤ y1) && decide (y1 < (y14.length : Int)))) then
              bif (b50 && b51) then
                let b52 : Bool := (e11.2.1 != (wrap64 (bt y0 0)))
                bif (decide (0 ≤ y1) && decide (y1 < (y13.length : Int))) && (decide (0 ≤ (0 : Int)) && decide ((0 : Int) < (y0.size : Int))) then
                  bif b52 then
                    some (Sum.inl (false, ()))
                  else
                    bif decide (0 ≤ (1 : Int)) && decide ((1 : Int) ≤ (y0.size : Int)) then
                      rec (y0.extract 1 y0.size) (wrap64 (y1 + 1)) y2 y3 y4 y5 y6 y7 y8 y9 y10 y11 y12 y13 y14
                    else none
                else none
              else
                let b53 : Bool := ((e14.1 == 3) && (e14.2.1 == 3))
                bif (decide (0 ≤ y1) && decide (y1 < (y14.length : Int))) && (!(e14.1 == 3) || (decide (0 ≤ y1) && decide (y1 < (y14.length : Int)))) then
                  let s54 : ByteArray := (bif b53 then (⟨#[]⟩ : ByteArray) else y0)
                  let x55 : Int := (bif b53 then y1 else y1)
                  let x77 : Int := (bif b53 then y2 else y2)
                  let s78 : ByteArray := (bif b53 then y3 else y3)
                  let s79 : ByteArray := (bif b53 then y4 else y4)
                  let x80 : Int := (bif b53 then y5 else y5)
                  let b81 : Bool := (bif b53 then y6 else y6)
                  let l82 : List (Int × Int × Bool) := (bif b53 then y7 else y7)
                  let x83 : Int := (bif b53 then y8 else y8)
                  let s84 : ByteArray := (bif b53 then y9 else y9)
                  let s85 : ByteArray := (bif b53 then y10 else y10)
                  let x86 : Int := (bif b53 then y11 else y11)
                  let b87 : Bool := (bif b53 then y12 else y12)
                  let l88 : List (Int × Int × Bool) := (bif b53 then y13 else y13)
                  let l89 : List (Int × Int × Int × ByteArray) := (bif b53 then y14 else y14)
                  rec s54 (wrap64 (x55 + 1)) x77 s78 s79 x80 b81 l82 x83 s84 s85 x86 b87 l88 l89
                else none
            else none
        else none
    else none
  else
    some (Sum.inr (y0, y8, y9, y10, y11, y12, y13, ()))
noncomputable def laws_FnSerialBytes_l12 : Nat → ByteArray → Int → Int → ByteArray → ByteArray → Int → Bool → (List (Int × Int × Bool)) → Int → ByteArray → ByteArray → Int → Bool → (List (Int × Int × Bool)) → (List (Int × Int × Int × ByteArray)) → Option ((Bool × Unit) ⊕ (ByteArray × Int × ByteArray × ByteArray × Int × Bool × List (Int × Int × Bool) × Unit))
  | 0 => fun _ _ _ _ _ _ _ _ _ _ _ _ _ _ _ => none
  | n + 1 => laws_FnSerialBytes_l12_step (laws_FnSerialBytes_l12 n)
noncomputable def laws_FnSerialBytes_l12.ent : LEntry := ⟨sk 4 (.cell (.fix (.view 16 4)) :: (.cell (.fix (.ptr 5 0)) :: (.cell (.fix (.ptr 6 0)) :: (.cell (.val .bor (.str)) :: (.cell (.val .bor (.int .i64)) :: (sk 154 [])))))), rk 5 ([.val .bor (.int .i64), .val .bor (.str), .val .bor (.str), .val .bor (.int .i64), .val .bor (.bool), .val .own (.slice (.pair (.int .i64) (.pair (.int .i64) (.bool))))] :: ([.val .bor (.int .i64), .val .bor (.str), .val .bor (.str), .val .bor (.int .i64), .val .bor (.bool), .val .own (.slice (.pair (.int .i64) (.pair (.int .i64) (.bool))))] :: (rk 9 ([.any, .any, .any, .any, .val .own (.slice (.pair (.int .i64) (.pair (.int .i64) (.pair (.int .i64) (.str)))))] :: (rk 146 []))))), [], [], [⟨none, sk 2 (.cell (.val .bor (.bool)) :: (sk 160 [])), rk 163 [], [], []⟩, ⟨some 0, sk 6 (.cell (.fix (.ptr 6 0)) :: (.cell (.val .bor (.str)) :: (sk 155 []))), rk 6 ([.val .bor (.int .i64), .val .bor (.str), .val .bor (.str), .val .bor (.int .i64), .val .bor (.bool), .val .own (.slice (.pair (.int .i64) (.pair (.int .i64) (.bool))))] :: (rk 156 [])), [], []⟩], fun v => laws_FnSerialBytes_l12 K0 v.1 v.2.1 v.2.2.1 v.2.2.2.1 v.2.2.2.2.1 v.2.2.2.2.2.1 v.2.2.2.2.2.2.1 v.2.2.2.2.2.2.2.1 v.2.2.2.2.2.2.2.2.1 v.2.2.2.2.2.2.2.2.2.1 v.2.2.2.2.2.2.2.2.2.2.1 v.2.2.2.2.2.2.2.2.2.2.2.1 v.2.2.2.2.2.2.2.2.2.2.2.2.1 v.2.2.2.2.2.2.2.2.2.2.2.2.2.1 v.2.2.2.2.2.2.2.2.2.2.2.2.2.2.1⟩
theorem laws_FnSerialBytes_l12.eq : ∀ rec v, evStep laws_FnSerialBytes.E12 (bodyAt 12 Go.Proofs.Try.f7) laws_FnSerialBytes_l12.ent.ins laws_FnSerialBytes_l12.ent.rts laws_FnSerialBytes_l12.ent.hm laws_FnSerialBytes_l12.ent.nl laws_FnSerialBytes_l12.ent.xs rec v = laws_FnSerialBytes_l12_step (fun c0 c1 c2 c3 c4 c5 c6 c7 c8 c9 c10 c11 c12 c13 c14 => rec (c0, c1, c2, c3, c4, c5, c6, c7, c8, c9, c10, c11, c12, c13, c14, ())) v.1 v.2.1 v.2.2.1 v.2.2.2.1 v.2.2.2.2.1 v.2.2.2.2.2.1 v.2.2.2.2.2.2.1 v.2.2.2.2.2.2.2.1 v.2.2.2.2.2.2.2.2.1 v.2.2.2.2.2.2.2.2.2.1 v.2.2.2.2.2.2.2.2.2.2.1 v.2.2.2.2.2.2.2.2.2.2.2.1 v.2.2.2.2.2.2.2.2.2.2.2.2.1 v.2.2.2.2.2.2.2.2.2.2.2.2.2.1 v.2.2.2.2.2.2.2.2.2.2.2.2.2.2.1 := by intro rec v; kernel_rfl
noncomputable def laws_FnSerialBytes.E : Env := ⟨D, [], [(38, spec_DrawRunSerial_v3.ent), (29, spec_RunSerial.ent), (32, impl_RunSerial.ent)], [(12, laws_FnSerialBytes_l12.ent)]⟩
noncomputable def laws_FnSerialBytes (a0 : List Int) : Option (Bool × Unit) :=
  let b1 : Bool := decide ((a0.length : Int) > 1048576)
  bif b1 then
    some (true, ())
  else
    (spec_DrawRunSerial_v3 a0).bind fun r2 =>
    (spec_RunSerial r2.1 r2.2.1 r2.2.2.1 r2.2.2.2.1 r2.2.2.2.2.1).bind fun r3 =>
    (impl_RunSerial r2.1 r2.2.1 r2.2.2.1 r2.2.2.2.1 r2.2.2.2.2.1).bind fun r4 =>
    let b5 : Bool := !(seq r4.2.1 r3.2.1 && (seq r4.2.2.1 r3.2.2.1 && ((r4.2.2.2.1 == r3.2.2.2.1) && (r4.2.2.2.2.1 == r3.2.2.2.2.1))))
    let b6 : Bool := (((r4.1 != r3.1) || b5) || (r4.1 != 0))
    bif b6 then
      let b7 : Bool := (seq r4.2.1 r3.2.1 && (seq r4.2.2.1 r3.2.2.1 && ((r4.2.2.2.1 == r3.2.2.2.1) && (r4.2.2.2.2.1 == r3.2.2.2.2.1))))
      some (((r4.1 == r3.1) && b7), ())
    else
      let b8 : Bool := ((r4.2.2.2.2.2.1.length : Int) != (r2.2.2.2.2.1.length : Int))
      let b9 : Bool := ((r3.2.2.2.2.2.1.length : Int) != (r2.2.2.2.2.1.length : Int))
      bif (b8 || b9) then
        some (false, ())
      else
        (laws_FnSerialBytes_l12 K0 r2.1 0 r3.1 r3.2.1 r3.2.2.1 r3.2.2.2.1 r3.2.2.2.2.1 r3.2.2.2.2.2.1 r4.1 r4.2.1 r4.2.2.1 r4.2.2.2.1 r4.2.2.2.2.1 r4.2.2.2.2.2.1 r2.2.2.2.2.1).bind fun o90 =>
        match o90 with
        | Sum.inl p91 =>
          some (p91.1, ())
        | Sum.inr p92 =>
          some (seq p92.1 p92.2.2.1, ())
noncomputable def laws_FnSerialBytes.ent : Entry := ⟨[false], [.cell (.val .imm (.slice (.int .u8)))], [.cell (.val .bor (.bool))], [], fun v => laws_FnSerialBytes v.1⟩
theorem laws_FnSerialBytes.eq : ∀ v, evFn laws_FnSerialBytes.E Go.Proofs.Try.f7 laws_FnSerialBytes.ent.ptrs laws_FnSerialBytes.ent.ins laws_FnSerialBytes.ent.rets laws_FnSerialBytes.ent.outs v = laws_FnSerialBytes.ent.f v := by intro v; kernel_rfl
theorem laws_FnSerialBytes.fok : ∀ q ∈ [((38 : Nat), spec_DrawRunSerial_v3.ent), ((29 : Nat), spec_RunSerial.ent), ((32 : Nat), impl_RunSerial.ent)], EntryOK Go.Proofs.Try.prog q.1 q.2 := by
  intro q hq
  simp only [List.mem_cons, List.mem_nil_iff, or_false] at hq
  rcases hq with rfl | rfl | rfl
  · exact spec_DrawRunSerial_v3.ok
  · exact spec_RunSerial.ok
  · exact impl_RunSerial.ok
theorem laws_FnSerialBytes_l12.it : ∀ n v, iter (evStep laws_FnSerialBytes.E12 (bodyAt 12 Go.Proofs.Try.f7) laws_FnSerialBytes_l12.ent.ins laws_FnSerialBytes_l12.ent.rts laws_FnSerialBytes_l12.ent.hm laws_FnSerialBytes_l12.ent.nl laws_FnSerialBytes_l12.ent.xs) n v = laws_FnSerialBytes_l12 n v.1 v.2.1 v.2.2.1 v.2.2.2.1 v.2.2.2.2.1 v.2.2.2.2.2.1 v.2.2.2.2.2.2.1 v.2.2.2.2.2.2.2.1 v.2.2.2.2.2.2.2.2.1 v.2.2.2.2.2.2.2.2.2.1 v.2.2.2.2.2.2.2.2.2.2.1 v.2.2.2.2.2.2.2.2.2.2.2.1 v.2.2.2.2.2.2.2.2.2.2.2.2.1 v.2.2.2.2.2.2.2.2.2.2.2.2.2.1 v.2.2.2.2.2.2.2.2.2.2.2.2.2.2.1 := by
  intro n
  induction n with
  | zero => intro v; rfl
  | succ n ih =>
    intro v
    show (evStep laws_FnSerialBytes.E12 (bodyAt 12 Go.Proofs.Try.f7) laws_FnSerialBytes_l12.ent.ins laws_FnSerialBytes_l12.ent.rts laws_FnSerialBytes_l12.ent.hm laws_FnSerialBytes_l12.ent.nl laws_FnSerialBytes_l12.ent.xs) (iter (evStep laws_FnSerialBytes.E12 (bodyAt 12 Go.Proofs.Try.f7) laws_FnSerialBytes_l12.ent.ins laws_FnSerialBytes_l12.ent.rts laws_FnSerialBytes_l12.ent.hm laws_FnSerialBytes_l12.ent.nl laws_FnSerialBytes_l12.ent.xs) n) v = _
    rw [laws_FnSerialBytes_l12.eq, show (fun c0 c1 c2 c3 c4 c5 c6 c7 c8 c9 c10 c11 c12 c13 c14 => iter (evStep laws_FnSerialBytes.E12 (bodyAt 12 Go.Proofs.Try.f7) laws_FnSerialBytes_l12.ent.ins laws_FnSerialBytes_l12.ent.rts laws_FnSerialBytes_l12.ent.hm laws_FnSerialBytes_l12.ent.nl laws_FnSerialBytes_l12.ent.xs) n (c0, c1, c2, c3, c4, c5, c6, c7, c8, c9, c10, c11, c12, c13, c14, ())) = laws_FnSerialBytes_l12 n from by funext c0 c1 c2 c3 c4 c5 c6 c7 c8 c9 c10 c11 c12 c13 c14; exact ih _]
    rfl
theorem laws_FnSerialBytes_l12.fr : firstRegion (bodyAt 12 Go.Proofs.Try.f7) = 12 := by kernel_rfl
theorem laws_FnSerialBytes_l12.ls : loopsOf (bodyAt 12 Go.Proofs.Try.f7) = [] := by kernel_rfl
theorem laws_FnSerialBytes_l12.lok {E : Env} (hpin : laws_FnSerialBytes.E12.pin = E.pin) (hfind : find 12 E.loops = some laws_FnSerialBytes_l12.ent) : LoopOK Go.Proofs.Try.prog E (bodyAt 12 Go.Proofs.Try.f7) :=
  loop_of (E1 := laws_FnSerialBytes.E12) (EnvOK.of dok laws_FnSerialBytes.fok) mixed hpin (by rw [laws_FnSerialBytes_l12.fr]; exact hfind) laws_FnSerialBytes_l12.ls (by intro l hl; simp at hl) (fun v => (laws_FnSerialBytes_l12.it K0 v).symm)
theorem laws_FnSerialBytes.ls : loopsOf (bodyOf Go.Proofs.Try.f7) = [bodyAt 12 Go.Proofs.Try.f7] := by kernel_rfl
theorem laws_FnSerialBytes.at_ : Go.Proofs.Try.prog.funcs[7]? = some Go.Proofs.Try.f7 := by kernel_rfl
theorem laws_FnSerialBytes.bd : Go.Proofs.Try.f7.body = some (bodyOf Go.Proofs.Try.f7) := by kernel_rfl
theorem laws_FnSerialBytes.nm : Go.Proofs.Try.f7.name ≠ "runtime.NumGoroutine" := by decide
theorem laws_FnSerialBytes.ok : EntryOK Go.Proofs.Try.prog 7 laws_FnSerialBytes.ent :=
  entry_ok (E := laws_FnSerialBytes.E) (EnvOK.of dok laws_FnSerialBytes.fok) mixed laws_FnSerialBytes.at_ laws_FnSerialBytes.bd laws_FnSerialBytes.nm laws_FnSerialBytes.ls (by intro l hl; simp only [List.mem_singleton] at hl; subst hl; exact laws_FnSerialBytes_l12.lok rfl rfl) laws_FnSerialBytes.eq
end Go.Ab.FnSerialBytes