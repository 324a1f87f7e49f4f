/- The functions that the law FnExactManagerFault reaches, over plain values, and that each does what its code does: part 1 of 2. Without conditions. -/
import Derived.Test.YtohohapkmehfnaaProg
import Derived.Test.YtohohapkmehfnaaAbD
namespace Go.Ab.FnExactManagerFault
open Go.RowKit
set_option linter.unusedVariables false
set_option maxRecDepth 100000
noncomputable def tds : List (Option TD) := [
  none,
  some ⟨.other, 1, .opq, 8, false⟩,
  some ⟨.int .i64, 1, .int .i64, 8, false⟩,
  some ⟨.int .i64, 1, .int .i64, 8, false⟩,
  some ⟨.bool, 1, .bool, 1, false⟩,
  some ⟨.int .u8, 1, .int .u8, 1, false⟩,
  some ⟨.int .u8, 1, .int .u8, 1, false⟩,
  some ⟨.struct [(0, 2), (1, 3), (2, 4), (3, 6)], 4, .pair (.int .i64) (.pair (.int .i64) (.pair (.bool) (.int .u8))), 24, true⟩,
  some ⟨.struct [(0, 2), (1, 3), (2, 4), (3, 6)], 4, .pair (.int .i64) (.pair (.int .i64) (.pair (.bool) (.int .u8))), 24, true⟩,
  some ⟨.str, 1, .str, 16, false⟩,
  some ⟨.str, 1, .str, 16, false⟩,
  some ⟨.str, 1, .str, 16, false⟩,
  some ⟨.int .u64, 1, .int .u64, 8, false⟩,
  none,
  none,
  some ⟨.ptr 191, 1, .opq, 8, false⟩,
  some ⟨.ptr 194, 1, .opq, 8, false⟩,
  some ⟨.ptr 204, 1, .opq, 8, false⟩,
  some ⟨.struct [(0, 17)], 1, .opq, 8, true⟩,
  some ⟨.struct [(0, 17)], 1, .opq, 8, true⟩,
  none,
  some ⟨.int .i32, 1, .int .i32, 4, false⟩,
  some ⟨.slice 130, 1, .slice (.pair (.str) (.pair (.int .i64) (.pair (.int .i64) (.pair (.int .i64) (.pair (.int .i64) (.pair (.bool) (.bool))))))), 24, false⟩,
  some ⟨.slice 38, 1, .slice (.pair (.str) (.pair (.int .i64) (.pair (.int .i64) (.pair (.int .i64) (.pair (.int .i64) (.pair (.int .i64) (.pair (.str) (.int .i64)))))))), 24, false⟩,
  some ⟨.slice 133, 1, .slice (.pair (.int .i64) (.pair (.int .i64) (.int .i64))), 24, false⟩,
  some ⟨.struct [(0, 22), (1, 23), (2, 24), (3, 2), (4, 2)], 5, .pair (.slice (.pair (.str) (.pair (.int .i64) (.pair (.int .i64) (.pair (.int .i64) (.pair (.int .i64) (.pair (.bool) (.bool)))))))) (.pair (.slice (.pair (.str) (.pair (.int .i64) (.pair (.int .i64) (.pair (.int .i64) (.pair (.int .i64) (.pair (.int .i64) (.pair (.str) (.int .i64))))))))) (.pair (.slice (.pair (.int .i64) (.pair (.int .i64) (.int .i64)))) (.pair (.int .i64) (.int .i64)))), 88, true⟩,
  some ⟨.struct [(0, 22), (1, 23), (2, 24), (3, 2), (4, 2)], 5, .pair (.slice (.pair (.str) (.pair (.int .i64) (.pair (.int .i64) (.pair (.int .i64) (.pair (.int .i64) (.pair (.bool) (.bool)))))))) (.pair (.slice (.pair (.str) (.pair (.int .i64) (.pair (.int .i64) (.pair (.int .i64) (.pair (.int .i64) (.pair (.int .i64) (.pair (.str) (.int .i64))))))))) (.pair (.slice (.pair (.int .i64) (.pair (.int .i64) (.int .i64)))) (.pair (.int .i64) (.int .i64)))), 88, true⟩,
  some ⟨.other, 1, .opq, 8, false⟩,
  some ⟨.other, 1, .opq, 8, false⟩,
  some ⟨.slice 64, 1, .slice (.pair (.str) (.pair (.int .i64) (.pair (.int .i64) (.pair (.int .i64) (.pair (.int .i64) (.pair (.bool) (.bool))))))), 24, false⟩,
  some ⟨.slice 41, 1, .slice (.pair (.str) (.pair (.int .i64) (.pair (.int .i64) (.pair (.int .i64) (.pair (.int .i64) (.pair (.int .i64) (.pair (.str) (.int .i64)))))))), 24, false⟩,
  some ⟨.slice 85, 1, .slice (.pair (.int .i64) (.pair (.int .i64) (.int .i64))), 24, false⟩,
  some ⟨.struct [(0, 29), (1, 30), (2, 31), (3, 2), (4, 2)], 5, .pair (.slice (.pair (.str) (.pair (.int .i64) (.pair (.int .i64) (.pair (.int .i64) (.pair (.int .i64) (.pair (.bool) (.bool)))))))) (.pair (.slice (.pair (.str) (.pair (.int .i64) (.pair (.int .i64) (.pair (.int .i64) (.pair (.int .i64) (.pair (.int .i64) (.pair (.str) (.int .i64))))))))) (.pair (.slice (.pair (.int .i64) (.pair (.int .i64) (.int .i64)))) (.pair (.int .i64) (.int .i64)))), 88, true⟩,
  some ⟨.struct [(0, 29), (1, 30), (2, 31), (3, 2), (4, 2)], 5, .pair (.slice (.pair (.str) (.pair (.int .i64) (.pair (.int .i64) (.pair (.int .i64) (.pair (.int .i64) (.pair (.bool) (.bool)))))))) (.pair (.slice (.pair (.str) (.pair (.int .i64) (.pair (.int .i64) (.pair (.int .i64) (.pair (.int .i64) (.pair (.int .i64) (.pair (.str) (.int .i64))))))))) (.pair (.slice (.pair (.int .i64) (.pair (.int .i64) (.int .i64)))) (.pair (.int .i64) (.int .i64)))), 88, true⟩,
  some ⟨.other, 1, .opq, 8, false⟩,
  some ⟨.other, 1, .opq, 8, false⟩,
  some ⟨.other, 1, .opq, 8, false⟩,
  some ⟨.struct [(0, 9), (1, 2), (2, 2), (3, 2), (4, 2), (5, 2), (6, 9), (7, 2)], 8, .pair (.str) (.pair (.int .i64) (.pair (.int .i64) (.pair (.int .i64) (.pair (.int .i64) (.pair (.int .i64) (.pair (.str) (.int .i64))))))), 80, true⟩,
  some ⟨.struct [(0, 9), (1, 2), (2, 2), (3, 2), (4, 2), (5, 2), (6, 9), (7, 2)], 8, .pair (.str) (.pair (.int .i64) (.pair (.int .i64) (.pair (.int .i64) (.pair (.int .i64) (.pair (.int .i64) (.pair (.str) (.int .i64))))))), 80, true⟩,
  some ⟨.other, 1, .opq, 8, false⟩,
  some ⟨.other, 1, .opq, 8, false⟩,
  some ⟨.struct [(0, 9), (1, 2), (2, 2), (3, 2), (4, 2), (5, 2), (6, 9), (7, 2)], 8, .pair (.str) (.pair (.int .i64) (.pair (.int .i64) (.pair (.int .i64) (.pair (.int .i64) (.pair (.int .i64) (.pair (.str) (.int .i64))))))), 80, true⟩,
  some ⟨.other, 1, .opq, 8, false⟩,
  some ⟨.other, 1, .opq, 8, false⟩,
  some ⟨.other, 1, .opq, 8, false⟩,
  some ⟨.other, 1, .opq, 8, false⟩,
  some ⟨.slice 144, 1, .slice (.pair (.int .i64) (.pair (.str) (.str))), 24, false⟩,
  some ⟨.slice 146, 1, .slice (.pair (.int .i64) (.pair (.str) (.pair (.slice (.str)) (.pair (.int .i64) (.int .i64))))), 24, false⟩,
  some ⟨.struct [(0, 26), (5, 46), (6, 47), (7, 2)], 8, .pair (.slice (.pair (.str) (.pair (.int .i64) (.pair (.int .i64) (.pair (.int .i64) (.pair (.int .i64) (.pair (.bool) (.bool)))))))) (.pair (.slice (.pair (.str) (.pair (.int .i64) (.pair (.int .i64) (.pair (.int .i64) (.pair (.int .i64) (.pair (.int .i64) (.pair (.str) (.int .i64))))))))) (.pair (.slice (.pair (.int .i64) (.pair (.int .i64) (.int .i64)))) (.pair (.int .i64) (.pair (.int .i64) (.pair (.slice (.pair (.int .i64) (.pair (.str) (.str)))) (.pair (.slice (.pair (.int .i64) (.pair (.str) (.pair (.slice (.str)) (.pair (.int .i64) (.int .i64)))))) (.int .i64))))))), 144, true⟩,
  some ⟨.struct [(0, 26), (5, 46), (6, 47), (7, 2)], 8, .pair (.slice (.pair (.str) (.pair (.int .i64) (.pair (.int .i64) (.pair (.int .i64) (.pair (.int .i64) (.pair (.bool) (.bool)))))))) (.pair (.slice (.pair (.str) (.pair (.int .i64) (.pair (.int .i64) (.pair (.int .i64) (.pair (.int .i64) (.pair (.int .i64) (.pair (.str) (.int .i64))))))))) (.pair (.slice (.pair (.int .i64) (.pair (.int .i64) (.int .i64)))) (.pair (.int .i64) (.pair (.int .i64) (.pair (.slice (.pair (.int .i64) (.pair (.str) (.str)))) (.pair (.slice (.pair (.int .i64) (.pair (.str) (.pair (.slice (.str)) (.pair (.int .i64) (.int .i64)))))) (.int .i64))))))), 144, true⟩,
  some ⟨.other, 1, .opq, 8, false⟩,
  some ⟨.other, 1, .opq, 8, false⟩,
  some ⟨.slice 106, 1, .slice (.pair (.int .i64) (.pair (.str) (.str))), 24, false⟩,
  some ⟨.slice 108, 1, .slice (.pair (.int .i64) (.pair (.str) (.pair (.slice (.str)) (.pair (.int .i64) (.int .i64))))), 24, false⟩,
  some ⟨.struct [(0, 33), (5, 52), (6, 53), (7, 2)], 8, .pair (.slice (.pair (.str) (.pair (.int .i64) (.pair (.int .i64) (.pair (.int .i64) (.pair (.int .i64) (.pair (.bool) (.bool)))))))) (.pair (.slice (.pair (.str) (.pair (.int .i64) (.pair (.int .i64) (.pair (.int .i64) (.pair (.int .i64) (.pair (.int .i64) (.pair (.str) (.int .i64))))))))) (.pair (.slice (.pair (.int .i64) (.pair (.int .i64) (.int .i64)))) (.pair (.int .i64) (.pair (.int .i64) (.pair (.slice (.pair (.int .i64) (.pair (.str) (.str)))) (.pair (.slice (.pair (.int .i64) (.pair (.str) (.pair (.slice (.str)) (.pair (.int .i64) (.int .i64)))))) (.int .i64))))))), 144, true⟩,
  some ⟨.struct [(0, 33), (5, 52), (6, 53), (7, 2)], 8, .pair (.slice (.pair (.str) (.pair (.int .i64) (.pair (.int .i64) (.pair (.int .i64) (.pair (.int .i64) (.pair (.bool) (.bool)))))))) (.pair (.slice (.pair (.str) (.pair (.int .i64) (.pair (.int .i64) (.pair (.int .i64) (.pair (.int .i64) (.pair (.int .i64) (.pair (.str) (.int .i64))))))))) (.pair (.slice (.pair (.int .i64) (.pair (.int .i64) (.int .i64)))) (.pair (.int .i64) (.pair (.int .i64) (.pair (.slice (.pair (.int .i64) (.pair (.str) (.str)))) (.pair (.slice (.pair (.int .i64) (.pair (.str) (.pair (.slice (.str)) (.pair (.int .i64) (.int .i64)))))) (.int .i64))))))), 144, true⟩,
  some ⟨.other, 1, .opq, 8, false⟩,
  some ⟨.other, 1, .opq, 8, false⟩,
  some ⟨.other, 1, .opq, 8, false⟩,
  some ⟨.slice 5, 1, .slice (.int .u8), 24, false⟩,
  some ⟨.slice 70, 1, .slice (.pair (.int .i64) (.pair (.str) (.pair (.str) (.pair (.int .i64) (.pair (.str) (.pair (.int .i64) (.pair (.int .i64) (.pair (.int .i64) (.pair (.int .i64) (.pair (.int .i64) (.pair (.str) (.int .i64)))))))))))), 24, false⟩,
  none,
  some ⟨.other, 1, .opq, 8, false⟩,
  some ⟨.struct [(0, 9), (1, 2), (2, 2), (3, 2), (4, 2), (5, 4), (6, 4)], 7, .pair (.str) (.pair (.int .i64) (.pair (.int .i64) (.pair (.int .i64) (.pair (.int .i64) (.pair (.bool) (.bool)))))), 56, true⟩,
  some ⟨.struct [(0, 9), (1, 2), (2, 2), (3, 2), (4, 2), (5, 4), (6, 4)], 7, .pair (.str) (.pair (.int .i64) (.pair (.int .i64) (.pair (.int .i64) (.pair (.int .i64) (.pair (.bool) (.bool)))))), 56, true⟩,
  some ⟨.slice 73, 1, .slice (.pair (.int .i64) (.pair (.str) (.slice (.str)))), 24, false⟩,
  some ⟨.struct [(0, 2), (1, 33), (6, 65)], 7, .pair (.int .i64) (.pair (.slice (.pair (.str) (.pair (.int .i64) (.pair (.int .i64) (.pair (.int .i64) (.pair (.int .i64) (.pair (.bool) (.bool)))))))) (.pair (.slice (.pair (.str) (.pair (.int .i64) (.pair (.int .i64) (.pair (.int .i64) (.pair (.int .i64) (.pair (.int .i64) (.pair (.str) (.int .i64))))))))) (.pair (.slice (.pair (.int .i64) (.pair (.int .i64) (.int .i64)))) (.pair (.int .i64) (.pair (.int .i64) (.slice (.pair (.int .i64) (.pair (.str) (.slice (.str)))))))))), 120, true⟩,
  some ⟨.struct [(0, 2), (1, 33), (6, 65)], 7, .pair (.int .i64) (.pair (.slice (.pair (.str) (.pair (.int .i64) (.pair (.int .i64) (.pair (.int .i64) (.pair (.int .i64) (.pair (.bool) (.bool)))))))) (.pair (.slice (.pair (.str) (.pair (.int .i64) (.pair (.int .i64) (.pair (.int .i64) (.pair (.int .i64) (.pair (.int .i64) (.pair (.str) (.int .i64))))))))) (.pair (.slice (.pair (.int .i64) (.pair (.int .i64) (.int .i64)))) (.pair (.int .i64) (.pair (.int .i64) (.slice (.pair (.int .i64) (.pair (.str) (.slice (.str)))))))))), 120, true⟩,
  some ⟨.other, 1, .opq, 8, false⟩,
  some ⟨.struct [(0, 2), (1, 9), (2, 9), (3, 2), (4, 41)], 12, .pair (.int .i64) (.pair (.str) (.pair (.str) (.pair (.int .i64) (.pair (.str) (.pair (.int .i64) (.pair (.int .i64) (.pair (.int .i64) (.pair (.int .i64) (.pair (.int .i64) (.pair (.str) (.int .i64))))))))))), 128, true⟩,
  some ⟨.struct [(0, 2), (1, 9), (2, 9), (3, 2), (4, 41)], 12, .pair (.int .i64) (.pair (.str) (.pair (.str) (.pair (.int .i64) (.pair (.str) (.pair (.int .i64) (.pair (.int .i64) (.pair (.int .i64) (.pair (.int .i64) (.pair (.int .i64) (.pair (.str) (.int .i64))))))))))), 128, true⟩,
  some ⟨.slice 9, 1, .slice (.str), 24, false⟩,
  some ⟨.struct [(0, 2), (1, 9), (2, 71)], 3, .pair (.int .i64) (.pair (.str) (.slice (.str))), 48, true⟩,
  some ⟨.struct [(0, 2), (1, 9), (2, 71)], 3, .pair (.int .i64) (.pair (.str) (.slice (.str))), 48, true⟩,
  some ⟨.other, 1, .opq, 8, false⟩,
  some ⟨.other, 1, .opq, 8, false⟩,
  some ⟨.other, 1, .opq, 8, false⟩,
  some ⟨.other, 1, .opq, 8, false⟩,
  some ⟨.other, 1, .opq, 8, false⟩,
  some ⟨.other, 1, .opq, 8, false⟩,
  some ⟨.other, 1, .opq, 8, false⟩,
  some ⟨.other, 1, .opq, 8, false⟩,
  some ⟨.other, 1, .opq, 8, false⟩,
  some ⟨.other, 1, .opq, 8, false⟩,
  some ⟨.struct [(0, 2), (1, 2), (2, 2)], 3, .pair (.int .i64) (.pair (.int .i64) (.int .i64)), 24, true⟩,
  some ⟨.struct [(0, 2), (1, 2), (2, 2)], 3, .pair (.int .i64) (.pair (.int .i64) (.int .i64)), 24, true⟩,
  none,
  some ⟨.other, 1, .opq, 8, false⟩,
  some ⟨.other, 1, .opq, 8, false⟩,
  some ⟨.other, 1, .opq, 8, false⟩,
  some ⟨.other, 1, .opq, 8, false⟩,
  some ⟨.other, 1, .opq, 8, false⟩,
  some ⟨.other, 1, .opq, 8, false⟩,
  some ⟨.other, 1, .opq, 8, false⟩,
  some ⟨.other, 1, .opq, 8, false⟩,
  some ⟨.other, 1, .opq, 8, false⟩,
  some ⟨.other, 1, .opq, 8, false⟩,
  some ⟨.other, 1, .opq, 8, false⟩,
  some ⟨.other, 1, .opq, 8, false⟩,
  some ⟨.other, 1, .opq, 8, false⟩,
  some ⟨.other, 1, .opq, 8, false⟩,
  some ⟨.other, 1, .opq, 8, false⟩,
  some ⟨.other, 1, .opq, 8, false⟩,
  some ⟨.other, 1, .opq, 8, false⟩,
  some ⟨.other, 1, .opq, 8, false⟩,
  some ⟨.struct [(0, 2), (1, 9), (2, 9)], 3, .pair (.int .i64) (.pair (.str) (.str)), 40, true⟩,
  some ⟨.struct [(0, 2), (1, 9), (2, 9)], 3, .pair (.int .i64) (.pair (.str) (.str)), 40, true⟩,
  some ⟨.struct [(0, 2), (1, 9), (2, 71), (3, 2), (4, 2)], 5, .pair (.int .i64) (.pair (.str) (.pair (.slice (.str)) (.pair (.int .i64) (.int .i64)))), 64, true⟩,
  some ⟨.struct [(0, 2), (1, 9), (2, 71), (3, 2), (4, 2)], 5, .pair (.int .i64) (.pair (.str) (.pair (.slice (.str)) (.pair (.int .i64) (.int .i64)))), 64, true⟩,
  some ⟨.other, 1, .opq, 8, false⟩,
  some ⟨.other, 1, .opq, 8, false⟩,
  some ⟨.other, 1, .opq, 8, false⟩,
  some ⟨.other, 1, .opq, 8, false⟩,
  some ⟨.other, 1, .opq, 8, false⟩,
  some ⟨.other, 1, .opq, 8, false⟩,
  some ⟨.other, 1, .opq, 8, false⟩,
  some ⟨.ptr 123, 1, .opq, 8, false⟩,
  some ⟨.other, 1, .opq, 8, false⟩,
  some ⟨.other, 1, .opq, 8, false⟩,
  some ⟨.other, 1, .opq, 8, false⟩,
  some ⟨.other, 1, .opq, 8, false⟩,
  some ⟨.int .u64, 1, .int .u64, 8, false⟩,
  some ⟨.struct [(0, 59), (1, 3), (2, 121), (3, 2)], 4, .pair (.slice (.int .u8)) (.pair (.int .i64) (.pair (.int .u64) (.int .i64))), 48, true⟩,
  some ⟨.struct [(0, 59), (1, 3), (2, 121), (3, 2)], 4, .pair (.slice (.int .u8)) (.pair (.int .i64) (.pair (.int .u64) (.int .i64))), 48, true⟩,
  some ⟨.other, 1, .opq, 8, false⟩,
  some ⟨.other, 1, .opq, 8, false⟩,
  some ⟨.ptr 128, 1, .opq, 8, false⟩,
  some ⟨.struct [(0, 33)], 5, .pair (.slice (.pair (.str) (.pair (.int .i64) (.pair (.int .i64) (.pair (.int .i64) (.pair (.int .i64) (.pair (.bool) (.bool)))))))) (.pair (.slice (.pair (.str) (.pair (.int .i64) (.pair (.int .i64) (.pair (.int .i64) (.pair (.int .i64) (.pair (.int .i64) (.pair (.str) (.int .i64))))))))) (.pair (.slice (.pair (.int .i64) (.pair (.int .i64) (.int .i64)))) (.pair (.int .i64) (.int .i64)))), 88, true⟩,
  some ⟨.struct [(0, 33)], 5, .pair (.slice (.pair (.str) (.pair (.int .i64) (.pair (.int .i64) (.pair (.int .i64) (.pair (.int .i64) (.pair (.bool) (.bool)))))))) (.pair (.slice (.pair (.str) (.pair (.int .i64) (.pair (.int .i64) (.pair (.int .i64) (.pair (.int .i64) (.pair (.int .i64) (.pair (.str) (.int .i64))))))))) (.pair (.slice (.pair (.int .i64) (.pair (.int .i64) (.int .i64)))) (.pair (.int .i64) (.int .i64)))), 88, true⟩,
  some ⟨.other, 1, .opq, 8, false⟩,
  some ⟨.struct [(0, 9), (1, 2), (2, 2), (3, 2), (4, 2), (5, 4), (6, 4)], 7, .pair (.str) (.pair (.int .i64) (.pair (.int .i64) (.pair (.int .i64) (.pair (.int .i64) (.pair (.bool) (.bool)))))), 56, true⟩,
  some ⟨.other, 1, .opq, 8, false⟩,
  some ⟨.other, 1, .opq, 8, false⟩,
  some ⟨.struct [(0, 2), (1, 2), (2, 2)], 3, .pair (.int .i64) (.pair (.int .i64) (.int .i64)), 24, true⟩,
  some ⟨.other, 1, .opq, 8, false⟩,
  some ⟨.other, 1, .opq, 8, false⟩,
  some ⟨.other, 1, .opq, 8, false⟩,
  some ⟨.other, 1, .opq, 8, false⟩,
  some ⟨.other, 1, .opq, 8, false⟩,
  some ⟨.other, 1, .opq, 8, false⟩,
  some ⟨.other, 1, .opq, 8, false⟩,
  some ⟨.other, 1, .opq, 8, false⟩,
  some ⟨.other, 1, .opq, 8, false⟩,
  some ⟨.other, 1, .opq, 8, false⟩,
  some ⟨.struct [(0, 2), (1, 9), (2, 9)], 3, .pair (.int .i64) (.pair (.str) (.str)), 40, true⟩,
  some ⟨.other, 1, .opq, 8, false⟩,
  some ⟨.struct [(0, 2), (1, 9), (2, 71), (3, 2), (4, 2)], 5, .pair (.int .i64) (.pair (.str) (.pair (.slice (.str)) (.pair (.int .i64) (.int .i64)))), 64, true⟩,
  some ⟨.other, 1, .opq, 8, false⟩,
  some ⟨.other, 1, .opq, 8, false⟩,
  some ⟨.ptr 55, 1, .opq, 8, false⟩,
  some ⟨.other, 1, .opq, 8, false⟩,
  some ⟨.other, 1, .opq, 8, false⟩,
  some ⟨.other, 1, .opq, 8, false⟩,
  some ⟨.other, 1, .opq, 8, false⟩,
  some ⟨.other, 1, .opq, 8, false⟩,
  some ⟨.slice 2, 1, .slice (.int .i64), 24, false⟩,
  some ⟨.other, 1, .opq, 8, false⟩,
  some ⟨.int .u64, 1, .int .u64, 8, false⟩,
  some ⟨.other, 1, .opq, 8, false⟩,
  some ⟨.other, 1, .opq, 8, false⟩,
  some ⟨.other, 1, .opq, 8, false⟩,
  some ⟨.ptr 33, 1, .opq, 8, false⟩,
  none,
  some ⟨.other, 1, .opq, 8, false⟩,
  some ⟨.other, 1, .opq, 8, false⟩,
  some ⟨.other, 1, .opq, 8, false⟩,
  some ⟨.other, 1, .opq, 8, false⟩,
  some ⟨.other, 1, .opq, 8, false⟩,
  some ⟨.other, 1, .opq, 8, false⟩,
  some ⟨.other, 1, .opq, 8, false⟩,
  some ⟨.other, 1, .opq, 8, false⟩,
  some ⟨.other, 1, .opq, 8, false⟩,
  some ⟨.other, 1, .opq, 8, false⟩,
  some ⟨.other, 1, .opq, 8, false⟩,
  none,
  some ⟨.other, 1, .opq, 8, false⟩,
  some ⟨.other, 1, .opq, 8, false⟩,
  some ⟨.other, 1, .opq, 8, false⟩,
  some ⟨.other, 1, .opq, 8, false⟩,
  some ⟨.other, 1, .opq, 8, false⟩,
  some ⟨.other, 1, .opq, 8, false⟩,
  some ⟨.ptr 41, 1, .opq, 8, false⟩,
  some ⟨.ptr 85, 1, .opq, 8, false⟩,
  some ⟨.ptr 64, 1, .opq, 8, false⟩,
  some ⟨.other, 1, .opq, 8, false⟩,
  some ⟨.other, 1, .opq, 8, false⟩,
  some ⟨.other, 1, .opq, 8, false⟩,
  some ⟨.other, 1, .opq, 8, false⟩,
  some ⟨.other, 1, .opq, 8, false⟩,
  some ⟨.other, 1, .opq, 8, false⟩,
  some ⟨.struct [(0, 17), (1, 17), (2, 17), (3, 9)], 4, .pair (.opq) (.pair (.opq) (.pair (.opq) (.str))), 40, true⟩,
  some ⟨.struct [(0, 17), (1, 17), (2, 17), (3, 9)], 4, .pair (.opq) (.pair (.opq) (.pair (.opq) (.str))), 40, true⟩,
  none,
  none,
  none,
  some ⟨.other, 1, .opq, 8, false⟩,
  some ⟨.int .u32, 1, .int .u32, 4, false⟩,
  some ⟨.int .u8, 1, .int .u8, 1, false⟩,
  some ⟨.int .u8, 1, .int .u8, 1, false⟩,
  some ⟨.other, 1, .opq, 8, false⟩,
  some ⟨.ptr 5, 1, .opq, 8, false⟩,
  some ⟨.int .i32, 1, .int .i32, 4, false⟩,
  some ⟨.int .i32, 1, .int .i32, 4, false⟩,
  some ⟨.struct [(0, 12), (1, 12), (2, 196), (3, 197), (4, 5), (5, 5), (6, 198), (7, 199), (8, 200), (9, 201), (10, 202)], 11, .pair (.int .u64) (.pair (.int .u64) (.pair (.int .u32) (.pair (.int .u8) (.pair (.int .u8) (.pair (.int .u8) (.pair (.int .u8) (.pair (.opq) (.pair (.opq) (.pair (.int .i32) (.int .i32)))))))))), 48, true⟩,
  some ⟨.struct [(0, 12), (1, 12), (2, 196), (3, 197), (4, 5), (5, 5), (6, 198), (7, 199), (8, 200), (9, 201), (10, 202)], 11, .pair (.int .u64) (.pair (.int .u64) (.pair (.int .u32) (.pair (.int .u8) (.pair (.int .u8) (.pair (.int .u8) (.pair (.int .u8) (.pair (.opq) (.pair (.opq) (.pair (.int .i32) (.int .i32)))))))))), 48, true⟩,
  some ⟨.other, 1, .opq, 8, false⟩]
noncomputable def D : TypeId → Option TD := nthD tds
noncomputable abbrev Pr : Program := Go.Proofs.Try.prog
theorem tdsOk : okTds Pr (nthD tds) 0 tds = true := by kernel_rfl
theorem dok : Dok Pr D := dok_of tdsOk
theorem mixed : Pr.follows .mixedOrders = true := by kernel_rfl
abbrev R1 : Ty := .pair (.str) (.pair (.int .i64) (.pair (.int .i64) (.pair (.int .i64) (.pair (.int .i64) (.pair (.bool) (.bool))))))
abbrev R2 : Ty := .pair (.str) (.pair (.int .i64) (.pair (.int .i64) (.pair (.int .i64) (.pair (.int .i64) (.pair (.int .i64) (.pair (.str) (.int .i64)))))))
abbrev R3 : Ty := .pair (.int .i64) (.pair (.str) (.str))
abbrev R4 : Ty := .pair (.int .i64) (.pair (.str) (.pair (.slice (.str)) (.pair (.int .i64) (.int .i64))))
abbrev R5 : Ty := .pair (.int .i64) (.pair (.int .i64) (.int .i64))
abbrev V1 : Type := ByteArray × Int × Int × Int × Int × Bool × Bool
abbrev V2 : Type := ByteArray × Int × Int × Int × Int × Int × ByteArray × Int
abbrev V3 : Type := Int × ByteArray × ByteArray
abbrev V4 : Type := Int × ByteArray × List ByteArray × Int × Int
abbrev V5 : Type := Int × Int × Int
noncomputable abbrev f6 : Func := Go.Proofs.Try.f6
noncomputable abbrev f9 : Func := Go.Proofs.Try.f9
noncomputable abbrev f10 : Func := Go.Proofs.Try.f10
noncomputable abbrev f11 : Func := Go.Proofs.Try.f11
noncomputable abbrev f12 : Func := Go.Proofs.Try.f12
noncomputable abbrev f13 : Func := Go.Proofs.Try.f13
noncomputable abbrev f14 : Func := Go.Proofs.Try.f14
noncomputable abbrev f16 : Func := Go.Proofs.Try.f16
noncomputable abbrev f20 : Func := Go.Proofs.Try.f20
noncomputable abbrev f21 : Func := Go.Proofs.Try.f21
noncomputable abbrev f22 : Func := Go.Proofs.Try.f22
noncomputable abbrev f23 : Func := Go.Proofs.Try.f23
noncomputable abbrev f24 : Func := Go.Proofs.Try.f24
noncomputable abbrev f30 : Func := Go.Proofs.Try.f30
noncomputable abbrev f31 : Func := Go.Proofs.Try.f31
noncomputable abbrev f32 : Func := Go.Proofs.Try.f32
noncomputable abbrev f33 : Func := Go.Proofs.Try.f33
noncomputable abbrev f34 : Func := Go.Proofs.Try.f34
noncomputable abbrev f35 : Func := Go.Proofs.Try.f35
noncomputable abbrev f36 : Func := Go.Proofs.Try.f36
noncomputable abbrev f37 : Func := Go.Proofs.Try.f37
noncomputable abbrev f38 : Func := Go.Proofs.Try.f38
noncomputable abbrev f39 : Func := Go.Proofs.Try.f39
noncomputable abbrev f40 : Func := Go.Proofs.Try.f40
noncomputable abbrev f41 : Func := Go.Proofs.Try.f41
noncomputable abbrev f42 : Func := Go.Proofs.Try.f42
noncomputable abbrev f43 : Func := Go.Proofs.Try.f43
noncomputable abbrev f44 : Func := Go.Proofs.Try.f44
noncomputable abbrev f45 : Func := Go.Proofs.Try.f45
noncomputable abbrev f46 : Func := Go.Proofs.Try.f46
noncomputable abbrev f47 : Func := Go.Proofs.Try.f47
noncomputable abbrev f48 : Func := Go.Proofs.Try.f48
noncomputable abbrev f49 : Func := Go.Proofs.Try.f49
noncomputable abbrev f55 : Func := Go.Proofs.Try.f55
noncomputable abbrev f56 : Func := Go.Proofs.Try.f56
noncomputable abbrev f57 : Func := Go.Proofs.Try.f57
noncomputable abbrev f58 : Func := Go.Proofs.Try.f58
noncomputable abbrev f59 : Func := Go.Proofs.Try.f59
noncomputable abbrev f60 : Func := Go.Proofs.Try.f60
noncomputable abbrev f61 : Func := Go.Proofs.Try.f61
noncomputable abbrev f62 : Func := Go.Proofs.Try.f62
noncomputable abbrev f63 : Func := Go.Proofs.Try.f63
noncomputable abbrev f64 : Func := Go.Proofs.Try.f64
noncomputable abbrev f73 : Func := Go.Proofs.Try.f73
noncomputable abbrev f74 : Func := Go.Proofs.Try.f74
noncomputable abbrev f75 : Func := Go.Proofs.Try.f75
noncomputable abbrev f76 : Func := Go.Proofs.Try.f76
noncomputable abbrev f77 : Func := Go.Proofs.Try.f77
noncomputable abbrev f78 : Func := Go.Proofs.Try.f78
noncomputable abbrev f79 : Func := Go.Proofs.Try.f79
noncomputable abbrev f80 : Func := Go.Proofs.Try.f80
noncomputable abbrev f81 : Func := Go.Proofs.Try.f81
noncomputable abbrev f82 : Func := Go.Proofs.Try.f82
noncomputable abbrev f83 : Func := Go.Proofs.Try.f83
noncomputable abbrev f87 : Func := Go.Proofs.Try.f87
noncomputable abbrev f88 : Func := Go.Proofs.Try.f88
noncomputable abbrev f89 : Func := Go.Proofs.Try.f89
noncomputable abbrev f90 : Func := Go.Proofs.Try.f90
noncomputable abbrev f91 : Func := Go.Proofs.Try.f91
noncomputable abbrev f92 : Func := Go.Proofs.Try.f92
noncomputable abbrev f93 : Func := Go.Proofs.Try.f93
noncomputable abbrev f94 : Func := Go.Proofs.Try.f94
noncomputable abbrev f95 : Func := Go.Proofs.Try.f95
noncomputable abbrev f118 : Func := Go.Proofs.Try.f118
noncomputable abbrev f119 : Func := Go.Proofs.Try.f119
noncomputable abbrev f120 : Func := Go.Proofs.Try.f120
/-! ### loop.example/g00038/laws.szNode -/
noncomputable def laws_szNode.E : Env := ⟨D, [], [], []⟩
noncomputable def laws_szNode (a0 : ByteArray) (a1 : Int) (a2 : Int) (a3 : Int) (a4 : Int) (a5 : Bool) (a6 : Bool) (a7 : Int) : Option (Int × Unit) :=
 let x1 : Int := (wrap64 (a7 - (a0.size : Int)))
 bif decide (x1 < 0) then
  some (-1, ())
 else
  some (x1, ())
noncomputable def laws_szNode.ent : Entry := ⟨[false, false], [.agg [.val .bor (.str), .val .bor (.int .i64), .val .bor (.int .i64), .val .bor (.int .i64), .val .bor (.int .i64), .val .bor (.bool), .val .bor (.bool)], .cell (.val .bor (.int .i64))], [.cell (.val .bor (.int .i64))], [], fun v => laws_szNode v.1 v.2.1 v.2.2.1 v.2.2.2.1 v.2.2.2.2.1 v.2.2.2.2.2.1 v.2.2.2.2.2.2.1 v.2.2.2.2.2.2.2.1⟩
theorem laws_szNode.eq : ∀ v, evFn laws_szNode.E f73 laws_szNode.ent.ptrs laws_szNode.ent.ins laws_szNode.ent.rets laws_szNode.ent.outs v = laws_szNode.ent.f v := by intro v; kernel_rfl
theorem laws_szNode.fok : ∀ q ∈ ([] : List (Nat × Entry)), EntryOK Pr q.1 q.2 := by intro q hq; simp at hq
theorem laws_szNode.ls : loopsOf (bodyOf f73) = [] := by kernel_rfl
theorem laws_szNode.ok : EntryOK Pr 73 laws_szNode.ent :=
 entry_ok (E := laws_szNode.E) (EnvOK.of dok laws_szNode.fok) mixed (fn := f73) (by kernel_rfl) (by kernel_rfl) (by decide) laws_szNode.ls (by intro l hl; simp at hl) laws_szNode.eq
/-! ### loop.example/g00038/laws.szNodeS -/
noncomputable def laws_szNodeS.E5 : Env := ⟨D, [], [(73, laws_szNode.ent)], []⟩
noncomputable def laws_szNodeS_l5_step (rec : List V1 → Int → Int → Option ((Int × Unit) ⊕ (Int × Unit))) (y0 : List V1) (y1 : Int) (y2 : Int) : Option ((Int × Unit) ⊕ (Int × Unit)) :=
 let b2 : Bool := decide (y2 < (y0.length : Int))
 bif b2 then
  let e3 : V1 := rd R1 y0 y2
  (laws_szNode e3.1 e3.2.1 e3.2.2.1 e3.2.2.2.1 e3.2.2.2.2.1 e3.2.2.2.2.2.1 e3.2.2.2.2.2.2 y1).bind fun r4 =>
  bif decide (0 ≤ y2) && decide (y2 < (y0.length : Int)) then
   bif decide (r4.1 < 0) then
    some (Sum.inl (-1, ()))
   else
    rec y0 r4.1 (wrap64 (y2 + 1))
  else none
 else
  some (Sum.inr (y1, ()))
noncomputable def laws_szNodeS_l5 : Nat → List V1 → Int → Int → Option ((Int × Unit) ⊕ (Int × Unit))
 | 0 => fun _ _ _ => none
 | n + 1 => laws_szNodeS_l5_step (laws_szNodeS_l5 n)
noncomputable def laws_szNodeS_l5.ent : LEntry := ⟨(.cell (.val .bor (.slice R1)) :: (.cell (.val .bor (.int .i64)) :: (sk 3 (.cell (.val .bor (.int .i64)) :: (sk 21 []))))), rk 27 [], [], [], [⟨none, sk 4 (.cell (.val .bor (.int .i64)) :: (sk 22 [])), rk 27 [], [], []⟩, ⟨some 0, sk 1 (.cell (.val .bor (.int .i64)) :: (sk 25 [])), rk 27 [], [], []⟩], fun v => laws_szNodeS_l5 K0 v.1 v.2.1 v.2.2.1⟩
theorem laws_szNodeS_l5.eq : ∀ rec v, evStep laws_szNodeS.E5 (bodyAt 5 f30) laws_szNodeS_l5.ent.ins laws_szNodeS_l5.ent.rts laws_szNodeS_l5.ent.hm laws_szNodeS_l5.ent.nl laws_szNodeS_l5.ent.xs rec v = laws_szNodeS_l5_step (fun c0 c1 c2 => rec (c0, c1, c2, ())) v.1 v.2.1 v.2.2.1 := by intro rec v; kernel_rfl
noncomputable def laws_szNodeS.E : Env := ⟨D, [], [(73, laws_szNode.ent)], [(5, laws_szNodeS_l5.ent)]⟩
noncomputable def laws_szNodeS (a0 : List V1) (a1 : Int) : Option (Int × Unit) :=
 let x1 : Int := (wrap64 (a1 - (a0.length : Int)))
 bif decide (x1 < 0) then
  some (-1, ())
 else
  (laws_szNodeS_l5 K0 a0 x1 0).bind fun o5 =>
  match o5 with
  | Sum.inl p6 =>
   some (p6.1, ())
  | Sum.inr p7 =>
   some (p7.1, ())
noncomputable def laws_szNodeS.ent : Entry := ⟨[false, false], [.cell (.val .bor (.slice R1)), .cell (.val .bor (.int .i64))], [.cell (.val .bor (.int .i64))], [], fun v => laws_szNodeS v.1 v.2.1⟩
theorem laws_szNodeS.eq : ∀ v, evFn laws_szNodeS.E f30 laws_szNodeS.ent.ptrs laws_szNodeS.ent.ins laws_szNodeS.ent.rets laws_szNodeS.ent.outs v = laws_szNodeS.ent.f v := by intro v; kernel_rfl
theorem laws_szNodeS.fok : ∀ q ∈ [((73 : Nat), laws_szNode.ent)], EntryOK Pr q.1 q.2 := by
 intro q hq
 simp only [List.mem_cons, List.mem_nil_iff, or_false] at hq
 rcases hq with rfl
 · exact laws_szNode.ok
theorem laws_szNodeS_l5.it : ∀ n v, iter (evStep laws_szNodeS.E5 (bodyAt 5 f30) laws_szNodeS_l5.ent.ins laws_szNodeS_l5.ent.rts laws_szNodeS_l5.ent.hm laws_szNodeS_l5.ent.nl laws_szNodeS_l5.ent.xs) n v = laws_szNodeS_l5 n v.1 v.2.1 v.2.2.1 := by
 intro n
 induction n with
 | zero => intro v; rfl
 | succ n ih =>
  intro v
  show (evStep laws_szNodeS.E5 (bodyAt 5 f30) laws_szNodeS_l5.ent.ins laws_szNodeS_l5.ent.rts laws_szNodeS_l5.ent.hm laws_szNodeS_l5.ent.nl laws_szNodeS_l5.ent.xs) (iter (evStep laws_szNodeS.E5 (bodyAt 5 f30) laws_szNodeS_l5.ent.ins laws_szNodeS_l5.ent.rts laws_szNodeS_l5.ent.hm laws_szNodeS_l5.ent.nl laws_szNodeS_l5.ent.xs) n) v = _
  rw [laws_szNodeS_l5.eq, show (fun c0 c1 c2 => iter (evStep laws_szNodeS.E5 (bodyAt 5 f30) laws_szNodeS_l5.ent.ins laws_szNodeS_l5.ent.rts laws_szNodeS_l5.ent.hm laws_szNodeS_l5.ent.nl laws_szNodeS_l5.ent.xs) n (c0, c1, c2, ())) = laws_szNodeS_l5 n from by funext c0 c1 c2; exact ih _]
  rfl
theorem laws_szNodeS_l5.fr : firstRegion (bodyAt 5 f30) = 5 := by kernel_rfl
theorem laws_szNodeS_l5.ls : loopsOf (bodyAt 5 f30) = [] := by kernel_rfl
theorem laws_szNodeS_l5.lok {E : Env} (hpin : laws_szNodeS.E5.pin = E.pin) (hfind : find 5 E.loops = some laws_szNodeS_l5.ent) : LoopOK Pr E (bodyAt 5 f30) :=
 loop_of (E1 := laws_szNodeS.E5) (EnvOK.of dok laws_szNodeS.fok) mixed hpin (by rw [laws_szNodeS_l5.fr]; exact hfind) laws_szNodeS_l5.ls (by intro l hl; simp at hl) (fun v => (laws_szNodeS_l5.it K0 v).symm)
theorem laws_szNodeS.ls : loopsOf (bodyOf f30) = [bodyAt 5 f30] := by kernel_rfl
theorem laws_szNodeS.ok : EntryOK Pr 30 laws_szNodeS.ent :=
 entry_ok (E := laws_szNodeS.E) (EnvOK.of dok laws_szNodeS.fok) mixed (fn := f30) (by kernel_rfl) (by kernel_rfl) (by decide) laws_szNodeS.ls (by intro l hl; simp only [List.mem_singleton] at hl; subst hl; exact laws_szNodeS_l5.lok rfl rfl) laws_szNodeS.eq
/-! ### loop.example/g00038/laws.szVm -/
noncomputable def laws_szVm.E : Env := ⟨D, [], [], []⟩
noncomputable def laws_szVm (a0 : ByteArray) (a1 : Int) (a2 : Int) (a3 : Int) (a4 : Int) (a5 : Int) (a6 : ByteArray) (a7 : Int) (a8 : Int) : Option (Int × Unit) :=
 let x1 : Int := (wrap64 (a8 - (a0.size : Int)))
 bif decide (x1 < 0) then
  some (-1, ())
 else
  let x2 : Int := (wrap64 (x1 - (a6.size : Int)))
  bif decide (x2 < 0) then
   some (-1, ())
  else
   some (x2, ())
noncomputable def laws_szVm.ent : Entry := ⟨[false, false], [.agg [.val .bor (.str), .val .bor (.int .i64), .val .bor (.int .i64), .val .bor (.int .i64), .val .bor (.int .i64), .val .bor (.int .i64), .val .bor (.str), .val .bor (.int .i64)], .cell (.val .bor (.int .i64))], [.cell (.val .bor (.int .i64))], [], fun v => laws_szVm v.1 v.2.1 v.2.2.1 v.2.2.2.1 v.2.2.2.2.1 v.2.2.2.2.2.1 v.2.2.2.2.2.2.1 v.2.2.2.2.2.2.2.1 v.2.2.2.2.2.2.2.2.1⟩
theorem laws_szVm.eq : ∀ v, evFn laws_szVm.E f14 laws_szVm.ent.ptrs laws_szVm.ent.ins laws_szVm.ent.rets laws_szVm.ent.outs v = laws_szVm.ent.f v := by intro v; kernel_rfl
theorem laws_szVm.fok : ∀ q ∈ ([] : List (Nat × Entry)), EntryOK Pr q.1 q.2 := by intro q hq; simp at hq
theorem laws_szVm.ls : loopsOf (bodyOf f14) = [] := by kernel_rfl
theorem laws_szVm.ok : EntryOK Pr 14 laws_szVm.ent :=
 entry_ok (E := laws_szVm.E) (EnvOK.of dok laws_szVm.fok) mixed (fn := f14) (by kernel_rfl) (by kernel_rfl) (by decide) laws_szVm.ls (by intro l hl; simp at hl) laws_szVm.eq
/-! ### loop.example/g00038/laws.szVmS -/
noncomputable def laws_szVmS.E5 : Env := ⟨D, [], [(14, laws_szVm.ent)], []⟩
noncomputable def laws_szVmS_l5_step (rec : List V2 → Int → Int → Option ((Int × Unit) ⊕ (Int × Unit))) (y0 : List V2) (y1 : Int) (y2 : Int) : Option ((Int × Unit) ⊕ (Int × Unit)) :=
 let b2 : Bool := decide (y2 < (y0.length : Int))
 bif b2 then
  let e3 : V2 := rd R2 y0 y2
  (laws_szVm e3.1 e3.2.1 e3.2.2.1 e3.2.2.2.1 e3.2.2.2.2.1 e3.2.2.2.2.2.1 e3.2.2.2.2.2.2.1 e3.2.2.2.2.2.2.2 y1).bind fun r4 =>
  bif decide (0 ≤ y2) && decide (y2 < (y0.length : Int)) then
   bif decide (r4.1 < 0) then
    some (Sum.inl (-1, ()))
   else
    rec y0 r4.1 (wrap64 (y2 + 1))
  else none
 else
  some (Sum.inr (y1, ()))
noncomputable def laws_szVmS_l5 : Nat → List V2 → Int → Int → Option ((Int × Unit) ⊕ (Int × Unit))
 | 0 => fun _ _ _ => none
 | n + 1 => laws_szVmS_l5_step (laws_szVmS_l5 n)
noncomputable def laws_szVmS_l5.ent : LEntry := ⟨(.cell (.val .bor (.slice R2)) :: (.cell (.val .bor (.int .i64)) :: (sk 3 (.cell (.val .bor (.int .i64)) :: (sk 21 []))))), rk 27 [], [], [], [⟨none, sk 4 (.cell (.val .bor (.int .i64)) :: (sk 22 [])), rk 27 [], [], []⟩, ⟨some 0, sk 1 (.cell (.val .bor (.int .i64)) :: (sk 25 [])), rk 27 [], [], []⟩], fun v => laws_szVmS_l5 K0 v.1 v.2.1 v.2.2.1⟩
theorem laws_szVmS_l5.eq : ∀ rec v, evStep laws_szVmS.E5 (bodyAt 5 f31) laws_szVmS_l5.ent.ins laws_szVmS_l5.ent.rts laws_szVmS_l5.ent.hm laws_szVmS_l5.ent.nl laws_szVmS_l5.ent.xs rec v = laws_szVmS_l5_step (fun c0 c1 c2 => rec (c0, c1, c2, ())) v.1 v.2.1 v.2.2.1 := by intro rec v; kernel_rfl
noncomputable def laws_szVmS.E : Env := ⟨D, [], [(14, laws_szVm.ent)], [(5, laws_szVmS_l5.ent)]⟩
noncomputable def laws_szVmS (a0 : List V2) (a1 : Int) : Option (Int × Unit) :=
 let x1 : Int := (wrap64 (a1 - (a0.length : Int)))
 bif decide (x1 < 0) then
  some (-1, ())
 else
  (laws_szVmS_l5 K0 a0 x1 0).bind fun o5 =>
  match o5 with
  | Sum.inl p6 =>
   some (p6.1, ())
  | Sum.inr p7 =>
   some (p7.1, ())
noncomputable def laws_szVmS.ent : Entry := ⟨[false, false], [.cell (.val .bor (.slice R2)), .cell (.val .bor (.int .i64))], [.cell (.val .bor (.int .i64))], [], fun v => laws_szVmS v.1 v.2.1⟩
theorem laws_szVmS.eq : ∀ v, evFn laws_szVmS.E f31 laws_szVmS.ent.ptrs laws_szVmS.ent.ins laws_szVmS.ent.rets laws_szVmS.ent.outs v = laws_szVmS.ent.f v := by intro v; kernel_rfl
theorem laws_szVmS.fok : ∀ q ∈ [((14 : Nat), laws_szVm.ent)], EntryOK Pr q.1 q.2 := by
 intro q hq
 simp only [List.mem_cons, List.mem_nil_iff, or_false] at hq
 rcases hq with rfl
 · exact laws_szVm.ok
theorem laws_szVmS_l5.it : ∀ n v, iter (evStep laws_szVmS.E5 (bodyAt 5 f31) laws_szVmS_l5.ent.ins laws_szVmS_l5.ent.rts laws_szVmS_l5.ent.hm laws_szVmS_l5.ent.nl laws_szVmS_l5.ent.xs) n v = laws_szVmS_l5 n v.1 v.2.1 v.2.2.1 := by
 intro n
 induction n with
 | zero => intro v; rfl
 | succ n ih =>
  intro v
  show (evStep laws_szVmS.E5 (bodyAt 5 f31) laws_szVmS_l5.ent.ins laws_szVmS_l5.ent.rts laws_szVmS_l5.ent.hm laws_szVmS_l5.ent.nl laws_szVmS_l5.ent.xs) (iter (evStep laws_szVmS.E5 (bodyAt 5 f31) laws_szVmS_l5.ent.ins laws_szVmS_l5.ent.rts laws_szVmS_l5.ent.hm laws_szVmS_l5.ent.nl laws_szVmS_l5.ent.xs) n) v = _
  rw [laws_szVmS_l5.eq, show (fun c0 c1 c2 => iter (evStep laws_szVmS.E5 (bodyAt 5 f31) laws_szVmS_l5.ent.ins laws_szVmS_l5.ent.rts laws_szVmS_l5.ent.hm laws_szVmS_l5.ent.nl laws_szVmS_l5.ent.xs) n (c0, c1, c2, ())) = laws_szVmS_l5 n from by funext c0 c1 c2; exact ih _]
  rfl
theorem laws_szVmS_l5.fr : firstRegion (bodyAt 5 f31) = 5 := by kernel_rfl
theorem laws_szVmS_l5.ls : loopsOf (bodyAt 5 f31) = [] := by kernel_rfl
theorem laws_szVmS_l5.lok {E : Env} (hpin : laws_szVmS.E5.pin = E.pin) (hfind : find 5 E.loops = some laws_szVmS_l5.ent) : LoopOK Pr E (bodyAt 5 f31) :=
 loop_of (E1 := laws_szVmS.E5) (EnvOK.of dok laws_szVmS.fok) mixed hpin (by rw [laws_szVmS_l5.fr]; exact hfind) laws_szVmS_l5.ls (by intro l hl; simp at hl) (fun v => (laws_szVmS_l5.it K0 v).symm)
theorem laws_szVmS.ls : loopsOf (bodyOf f31) = [bodyAt 5 f31] := by kernel_rfl
theorem laws_szVmS.ok : EntryOK Pr 31 laws_szVmS.ent :=
 entry_ok (E := laws_szVmS.E) (EnvOK.of dok laws_szVmS.fok) mixed (fn := f31) (by kernel_rfl) (by kernel_rfl) (by decide) laws_szVmS.ls (by intro l hl; simp only [List.mem_singleton] at hl; subst hl; exact laws_szVmS_l5.lok rfl rfl) laws_szVmS.eq
/-! ### loop.example/g00038/laws.szTenantS -/
noncomputable def laws_szTenantS.E : Env := ⟨D, [], [], []⟩
noncomputable def laws_szTenantS (a0 : List V5) (a1 : Int) : Option (Int × Unit) :=
 let x1 : Int := (wrap64 (a1 - (a0.length : Int)))
 bif decide (x1 < 0) then
  some (-1, ())
 else
  some (x1, ())
noncomputable def laws_szTenantS.ent : Entry := ⟨[false, false], [.cell (.val .bor (.slice R5)), .cell (.val .bor (.int .i64))], [.cell (.val .bor (.int .i64))], [], fun v => laws_szTenantS v.1 v.2.1⟩
theorem laws_szTenantS.eq : ∀ v, evFn laws_szTenantS.E f32 laws_szTenantS.ent.ptrs laws_szTenantS.ent.ins laws_szTenantS.ent.rets laws_szTenantS.ent.outs v = laws_szTenantS.ent.f v := by intro v; kernel_rfl
theorem laws_szTenantS.fok : ∀ q ∈ ([] : List (Nat × Entry)), EntryOK Pr q.1 q.2 := by intro q hq; simp at hq
theorem laws_szTenantS.ls : loopsOf (bodyOf f32) = [] := by kernel_rfl
theorem laws_szTenantS.ok : EntryOK Pr 32 laws_szTenantS.ent :=
 entry_ok (E := laws_szTenantS.E) (EnvOK.of dok laws_szTenantS.fok) mixed (fn := f32) (by kernel_rfl) (by kernel_rfl) (by decide) laws_szTenantS.ls (by intro l hl; simp at hl) laws_szTenantS.eq
/-! ### loop.example/g00038/laws.szCluster -/
noncomputable def laws_szCluster.E : Env := ⟨D, [], [(30, laws_szNodeS.ent), (31, laws_szVmS.ent), (32, laws_szTenantS.ent)], []⟩
noncomputable def laws_szCluster (a0 : List V1) (a1 : List V2) (a2 : List V5) (a3 : Int) (a4 : Int) (a5 : Int) : Option (Int × Unit) :=
 (laws_szNodeS a0 a5).bind fun r1 =>
 bif decide (r1.1 < 0) then
  some (-1, ())
 else
  (laws_szVmS a1 r1.1).bind fun r2 =>
  bif decide (r2.1 < 0) then
   some (-1, ())
  else
   (laws_szTenantS a2 r2.1).bind fun r3 =>
   bif decide (r3.1 < 0) then
    some (-1, ())
   else
    some (r3.1, ())
noncomputable def laws_szCluster.ent : Entry := ⟨[false, false], [.agg [.val .bor (.slice R1), .val .bor (.slice R2), .val .bor (.slice R5), .val .bor (.int .i64), .val .bor (.int .i64)], .cell (.val .bor (.int .i64))], [.cell (.val .bor (.int .i64))], [], fun v => laws_szCluster v.1 v.2.1 v.2.2.1 v.2.2.2.1 v.2.2.2.2.1 v.2.2.2.2.2.1⟩
theorem laws_szCluster.eq : ∀ v, evFn laws_szCluster.E f9 laws_szCluster.ent.ptrs laws_szCluster.ent.ins laws_szCluster.ent.rets laws_szCluster.ent.outs v = laws_szCluster.ent.f v := by intro v; kernel_rfl
theorem laws_szCluster.fok : ∀ q ∈ [((30 : Nat), laws_szNodeS.ent), ((31 : Nat), laws_szVmS.ent), ((32 : Nat), laws_szTenantS.ent)], EntryOK Pr q.1 q.2 := by
 intro q hq
 simp only [List.mem_cons, List.mem_nil_iff, or_false] at hq
 rcases hq with rfl | rfl | rfl
 · exact laws_szNodeS.ok
 · exact laws_szVmS.ok
 · exact laws_szTenantS.ok
theorem laws_szCluster.ls : loopsOf (bodyOf f9) = [] := by kernel_rfl
theorem laws_szCluster.ok : EntryOK Pr 9 laws_szCluster.ent :=
 entry_ok (E := laws_szCluster.E) (EnvOK.of dok laws_szCluster.fok) mixed (fn := f9) (by kernel_rfl) (by kernel_rfl) (by decide) laws_szCluster.ls (by intro l hl; simp at hl) laws_szCluster.eq
/-! ### loop.example/g00038/laws.szAnswer -/
noncomputable def laws_szAnswer.E : Env := ⟨D, [], [], []⟩
noncomputable def laws_szAnswer (a0 : Int) (a1 : ByteArray) (a2 : ByteArray) (a3 : Int) : Option (Int × Unit) :=
 let x1 : Int := (wrap64 (a3 - (a1.size : Int)))
 bif decide (x1 < 0) then
  some (-1, ())
 else
  let x2 : Int := (wrap64 (x1 - (a2.size : Int)))
  bif decide (x2 < 0) then
   some (-1, ())
  else
   some (x2, ())
noncomputable def laws_szAnswer.ent : Entry := ⟨[false, false], [.agg [.val .bor (.int .i64), .val .bor (.str), .val .bor (.str)], .cell (.val .bor (.int .i64))], [.cell (.val .bor (.int .i64))], [], fun v => laws_szAnswer v.1 v.2.1 v.2.2.1 v.2.2.2.1⟩
theorem laws_szAnswer.eq : ∀ v, evFn laws_szAnswer.E f87 laws_szAnswer.ent.ptrs laws_szAnswer.ent.ins laws_szAnswer.ent.rets laws_szAnswer.ent.outs v = laws_szAnswer.ent.f v := by intro v; kernel_rfl
theorem laws_szAnswer.fok : ∀ q ∈ ([] : List (Nat × Entry)), EntryOK Pr q.1 q.2 := by intro q hq; simp at hq
theorem laws_szAnswer.ls : loopsOf (bodyOf f87) = [] := by kernel_rfl
theorem laws_szAnswer.ok : EntryOK Pr 87 laws_szAnswer.ent :=
 entry_ok (E := laws_szAnswer.E) (EnvOK.of dok laws_szAnswer.fok) mixed (fn := f87) (by kernel_rfl) (by kernel_rfl) (by decide) laws_szAnswer.ls (by intro l hl; simp at hl) laws_szAnswer.eq
/-! ### loop.example/g00038/laws.szAnswerS -/
noncomputable def laws_szAnswerS.E5 : Env := ⟨D, [], [(87, laws_szAnswer.ent)], []⟩
noncomputable def laws_szAnswerS_l5_step (rec : List V3 → Int → Int → Option ((Int × Unit) ⊕ (Int × Unit))) (y0 : List V3) (y1 : Int) (y2 : Int) : Option ((Int × Unit) ⊕ (Int × Unit)) :=
 let b2 : Bool := decide (y2 < (y0.length : Int))
 bif b2 then
  let e3 : V3 := rd R3 y0 y2
  (laws_szAnswer e3.1 e3.2.1 e3.2.2 y1).bind fun r4 =>
  bif decide (0 ≤ y2) && decide (y2 < (y0.length : Int)) then
   bif decide (r4.1 < 0) then
    some (Sum.inl (-1, ()))
   else
    rec y0 r4.1 (wrap64 (y2 + 1))
  else none
 else
  some (Sum.inr (y1, ()))
noncomputable def laws_szAnswerS_l5 : Nat → List V3 → Int → Int → Option ((Int × Unit) ⊕ (Int × Unit))
 | 0 => fun _ _ _ => none
 | n + 1 => laws_szAnswerS_l5_step (laws_szAnswerS_l5 n)
noncomputable def laws_szAnswerS_l5.ent : LEntry := ⟨(.cell (.val .bor (.slice R3)) :: (.cell (.val .bor (.int .i64)) :: (sk 3 (.cell (.val .bor (.int .i64)) :: (sk 21 []))))), rk 27 [], [], [], [⟨none, sk 4 (.cell (.val .bor (.int .i64)) :: (sk 22 [])), rk 27 [], [], []⟩, ⟨some 0, sk 1 (.cell (.val .bor (.int .i64)) :: (sk 25 [])), rk 27 [], [], []⟩], fun v => laws_szAnswerS_l5 K0 v.1 v.2.1 v.2.2.1⟩
theorem laws_szAnswerS_l5.eq : ∀ rec v, evStep laws_szAnswerS.E5 (bodyAt 5 f55) laws_szAnswerS_l5.ent.ins laws_szAnswerS_l5.ent.rts laws_szAnswerS_l5.ent.hm laws_szAnswerS_l5.ent.nl laws_szAnswerS_l5.ent.xs rec v = laws_szAnswerS_l5_step (fun c0 c1 c2 => rec (c0, c1, c2, ())) v.1 v.2.1 v.2.2.1 := by intro rec v; kernel_rfl
noncomputable def laws_szAnswerS.E : Env := ⟨D, [], [(87, laws_szAnswer.ent)], [(5, laws_szAnswerS_l5.ent)]⟩
noncomputable def laws_szAnswerS (a0 : List V3) (a1 : Int) : Option (Int × Unit) :=
 let x1 : Int := (wrap64 (a1 - (a0.length : Int)))
 bif decide (x1 < 0) then
  some (-1, ())
 else
  (laws_szAnswerS_l5 K0 a0 x1 0).bind fun o5 =>
  match o5 with
  | Sum.inl p6 =>
   some (p6.1, ())
  | Sum.inr p7 =>
   some (p7.1, ())
noncomputable def laws_szAnswerS.ent : Entry := ⟨[false, false], [.cell (.val .bor (.slice R3)), .cell (.val .bor (.int .i64))], [.cell (.val .bor (.int .i64))], [], fun v => laws_szAnswerS v.1 v.2.1⟩
theorem laws_szAnswerS.eq : ∀ v, evFn laws_szAnswerS.E f55 laws_szAnswerS.ent.ptrs laws_szAnswerS.ent.ins laws_szAnswerS.ent.rets laws_szAnswerS.ent.outs v = laws_szAnswerS.ent.f v := by intro v; kernel_rfl
theorem laws_szAnswerS.fok : ∀ q ∈ [((87 : Nat), laws_szAnswer.ent)], EntryOK Pr q.1 q.2 := by
 intro q hq
 simp only [List.mem_cons, List.mem_nil_iff, or_false] at hq
 rcases hq with rfl
 · exact laws_szAnswer.ok
theorem laws_szAnswerS_l5.it : ∀ n v, iter (evStep laws_szAnswerS.E5 (bodyAt 5 f55) laws_szAnswerS_l5.ent.ins laws_szAnswerS_l5.ent.rts laws_szAnswerS_l5.ent.hm laws_szAnswerS_l5.ent.nl laws_szAnswerS_l5.ent.xs) n v = laws_szAnswerS_l5 n v.1 v.2.1 v.2.2.1 := by
 intro n
 induction n with
 | zero => intro v; rfl
 | succ n ih =>
  intro v
  show (evStep laws_szAnswerS.E5 (bodyAt 5 f55) laws_szAnswerS_l5.ent.ins laws_szAnswerS_l5.ent.rts laws_szAnswerS_l5.ent.hm laws_szAnswerS_l5.ent.nl laws_szAnswerS_l5.ent.xs) (iter (evStep laws_szAnswerS.E5 (bodyAt 5 f55) laws_szAnswerS_l5.ent.ins laws_szAnswerS_l5.ent.rts laws_szAnswerS_l5.ent.hm laws_szAnswerS_l5.ent.nl laws_szAnswerS_l5.ent.xs) n) v = _
  rw [laws_szAnswerS_l5.eq, show (fun c0 c1 c2 => iter (evStep laws_szAnswerS.E5 (bodyAt 5 f55) laws_szAnswerS_l5.ent.ins laws_szAnswerS_l5.ent.rts laws_szAnswerS_l5.ent.hm laws_szAnswerS_l5.ent.nl laws_szAnswerS_l5.ent.xs) n (c0, c1, c2, ())) = laws_szAnswerS_l5 n from by funext c0 c1 c2; exact ih _]
  rfl
theorem laws_szAnswerS_l5.fr : firstRegion (bodyAt 5 f55) = 5 := by kernel_rfl
theorem laws_szAnswerS_l5.ls : loopsOf (bodyAt 5 f55) = [] := by kernel_rfl
theorem laws_szAnswerS_l5.lok {E : Env} (hpin : laws_szAnswerS.E5.pin = E.pin) (hfind : find 5 E.loops = some laws_szAnswerS_l5.ent) : LoopOK Pr E (bodyAt 5 f55) :=
 loop_of (E1 := laws_szAnswerS.E5) (EnvOK.of dok laws_szAnswerS.fok) mixed hpin (by rw [laws_szAnswerS_l5.fr]; exact hfind) laws_szAnswerS_l5.ls (by intro l hl; simp at hl) (fun v => (laws_szAnswerS_l5.it K0 v).symm)
theorem laws_szAnswerS.ls : loopsOf (bodyOf f55) = [bodyAt 5 f55] := by kernel_rfl
theorem laws_szAnswerS.ok : EntryOK Pr 55 laws_szAnswerS.ent :=
 entry_ok (E := laws_szAnswerS.E) (EnvOK.of dok laws_szAnswerS.fok) mixed (fn := f55) (by kernel_rfl) (by kernel_rfl) (by decide) laws_szAnswerS.ls (by intro l hl; simp only [List.mem_singleton] at hl; subst hl; exact laws_szAnswerS_l5.lok rfl rfl) laws_szAnswerS.eq
/-! ### loop.example/g00038/laws.szStringS -/
noncomputable def laws_szStringS.E5 : Env := ⟨D, [], [], []⟩
noncomputable def laws_szStringS_l5_step (rec : List ByteArray → Int → Int → Option ((Int × Unit) ⊕ (Int × Unit))) (y0 : List ByteArray) (y1 : Int) (y2 : Int) : Option ((Int × Unit) ⊕ (Int × Unit)) :=
 let b2 : Bool := decide (y2 < (y0.length : Int))
 bif b2 then
  let x3 : Int := (wrap64 (y1 - ((rd (.str) y0 y2).size : Int)))
  bif decide (0 ≤ y2) && decide (y2 < (y0.length : Int)) then
   bif decide (x3 < 0) then
    some (Sum.inl (-1, ()))
   else
    rec y0 x3 (wrap64 (y2 + 1))
  else none
 else
  some (Sum.inr (y1, ()))
noncomputable def laws_szStringS_l5 : Nat → List ByteArray → Int → Int → Option ((Int × Unit) ⊕ (Int × Unit))
 | 0 => fun _ _ _ => none
 | n + 1 => laws_szStringS_l5_step (laws_szStringS_l5 n)
noncomputable def laws_szStringS_l5.ent : LEntry := ⟨(.cell (.val .bor (.slice (.str))) :: (.cell (.val .bor (.int .i64)) :: (sk 3 (.cell (.val .bor (.int .i64)) :: (sk 22 []))))), rk 28 [], [], [], [⟨none, sk 4 (.cell (.val .bor (.int .i64)) :: (sk 23 [])), rk 28 [], [], []⟩, ⟨some 0, sk 1 (.cell (.val .bor (.int .i64)) :: (sk 26 [])), rk 28 [], [], []⟩], fun v => laws_szStringS_l5 K0 v.1 v.2.1 v.2.2.1⟩
theorem laws_szStringS_l5.eq : ∀ rec v, evStep laws_szStringS.E5 (bodyAt 5 f118) laws_szStringS_l5.ent.ins laws_szStringS_l5.ent.rts laws_szStringS_l5.ent.hm laws_szStringS_l5.ent.nl laws_szStringS_l5.ent.xs rec v = laws_szStringS_l5_step (fun c0 c1 c2 => rec (c0, c1, c2, ())) v.1 v.2.1 v.2.2.1 := by intro rec v; kernel_rfl
noncomputable def laws_szStringS.E : Env := ⟨D, [], [], [(5, laws_szStringS_l5.ent)]⟩
noncomputable def laws_szStringS (a0 : List ByteArray) (a1 : Int) : Option (Int × Unit) :=
 let x1 : Int := (wrap64 (a1 - (a0.length : Int)))
 bif decide (x1 < 0) then
  some (-1, ())
 else
  (laws_szStringS_l5 K0 a0 x1 0).bind fun o4 =>
  match o4 with
  | Sum.inl p5 =>
   some (p5.1, ())
  | Sum.inr p6 =>
   some (p6.1, ())
noncomputable def laws_szStringS.ent : Entry := ⟨[false, false], [.cell (.val .bor (.slice (.str))), .cell (.val .bor (.int .i64))], [.cell (.val .bor (.int .i64))], [], fun v => laws_szStringS v.1 v.2.1⟩
theorem laws_szStringS.eq : ∀ v, evFn laws_szStringS.E f118 laws_szStringS.ent.ptrs laws_szStringS.ent.ins laws_szStringS.ent.rets laws_szStringS.ent.outs v = laws_szStringS.ent.f v := by intro v; kernel_rfl
theorem laws_szStringS.fok : ∀ q ∈ ([] : List (Nat × Entry)), EntryOK Pr q.1 q.2 := by intro q hq; simp at hq
theorem laws_szStringS_l5.it : ∀ n v, iter (evStep laws_szStringS.E5 (bodyAt 5 f118) laws_szStringS_l5.ent.ins laws_szStringS_l5.ent.rts laws_szStringS_l5.ent.hm laws_szStringS_l5.ent.nl laws_szStringS_l5.ent.xs) n v = laws_szStringS_l5 n v.1 v.2.1 v.2.2.1 := by
 intro n
 induction n with
 | zero => intro v; rfl
 | succ n ih =>
  intro v
  show (evStep laws_szStringS.E5 (bodyAt 5 f118) laws_szStringS_l5.ent.ins laws_szStringS_l5.ent.rts laws_szStringS_l5.ent.hm laws_szStringS_l5.ent.nl laws_szStringS_l5.ent.xs) (iter (evStep laws_szStringS.E5 (bodyAt 5 f118) laws_szStringS_l5.ent.ins laws_szStringS_l5.ent.rts laws_szStringS_l5.ent.hm laws_szStringS_l5.ent.nl laws_szStringS_l5.ent.xs) n) v = _
  rw [laws_szStringS_l5.eq, show (fun c0 c1 c2 => iter (evStep laws_szStringS.E5 (bodyAt 5 f118) laws_szStringS_l5.ent.ins laws_szStringS_l5.ent.rts laws_szStringS_l5.ent.hm laws_szStringS_l5.ent.nl laws_szStringS_l5.ent.xs) n (c0, c1, c2, ())) = laws_szStringS_l5 n from by funext c0 c1 c2; exact ih _]
  rfl
theorem laws_szStringS_l5.fr : firstRegion (bodyAt 5 f118) = 5 := by kernel_rfl
theorem laws_szStringS_l5.ls : loopsOf (bodyAt 5 f118) = [] := by kernel_rfl
theorem laws_szStringS_l5.lok {E : Env} (hpin : laws_szStringS.E5.pin = E.pin) (hfind : find 5 E.loops = some laws_szStringS_l5.ent) : LoopOK Pr E (bodyAt 5 f118) :=
 loop_of (E1 := laws_szStringS.E5) (EnvOK.of dok laws_szStringS.fok) mixed hpin (by rw [laws_szStringS_l5.fr]; exact hfind) laws_szStringS_l5.ls (by intro l hl; simp at hl) (fun v => (laws_szStringS_l5.it K0 v).symm)
theorem laws_szStringS.ls : loopsOf (bodyOf f118) = [bodyAt 5 f118] := by kernel_rfl
theorem laws_szStringS.ok : EntryOK Pr 118 laws_szStringS.ent :=
 entry_ok (E := laws_szStringS.E) (EnvOK.of dok laws_szStringS.fok) mixed (fn := f118) (by kernel_rfl) (by kernel_rfl) (by decide) laws_szStringS.ls (by intro l hl; simp only [List.mem_singleton] at hl; subst hl; exact laws_szStringS_l5.lok rfl rfl) laws_szStringS.eq
/-! ### loop.example/g00038/laws.szManJob -/
noncomputable def laws_szManJob.E : Env := ⟨D, [], [(118, laws_szStringS.ent)], []⟩
noncomputable def laws_szManJob (a0 : Int) (a1 : ByteArray) (a2 : List ByteArray) (a3 : Int) (a4 : Int) (a5 : Int) : Option (Int × Unit) :=
 let x1 : Int := (wrap64 (a5 - (a1.size : Int)))
 bif decide (x1 < 0) then
  some (-1, ())
 else
  (laws_szStringS a2 x1).bind fun r2 =>
  bif decide (r2.1 < 0) then
   some (-1, ())
  else
   some (r2.1, ())
noncomputable def laws_szManJob.ent : Entry := ⟨[false, false], [.agg [.val .bor (.int .i64), .val .bor (.str), .val .bor (.slice (.str)), .val .bor (.int .i64), .val .bor (.int .i64)], .cell (.val .bor (.int .i64))], [.cell (.val .bor (.int .i64))], [], fun v => laws_szManJob v.1 v.2.1 v.2.2.1 v.2.2.2.1 v.2.2.2.2.1 v.2.2.2.2.2.1⟩
theorem laws_szManJob.eq : ∀ v, evFn laws_szManJob.E f88 laws_szManJob.ent.ptrs laws_szManJob.ent.ins laws_szManJob.ent.rets laws_szManJob.ent.outs v = laws_szManJob.ent.f v := by intro v; kernel_rfl
theorem laws_szManJob.fok : ∀ q ∈ [((118 : Nat), laws_szStringS.ent)], EntryOK Pr q.1 q.2 := by
 intro q hq
 simp only [List.mem_cons, List.mem_nil_iff, or_false] at hq
 rcases hq with rfl
 · exact laws_szStringS.ok
theorem laws_szManJob.ls : loopsOf (bodyOf f88) = [] := by kernel_rfl
theorem laws_szManJob.ok : EntryOK Pr 88 laws_szManJob.ent :=
 entry_ok (E := laws_szManJob.E) (EnvOK.of dok laws_szManJob.fok) mixed (fn := f88) (by kernel_rfl) (by kernel_rfl) (by decide) laws_szManJob.ls (by intro l hl; simp at hl) laws_szManJob.eq
/-! ### loop.example/g00038/laws.szManJobS -/
noncomputable def laws_szManJobS.E5 : Env := ⟨D, [], [(88, laws_szManJob.ent)], []⟩
noncomputable def laws_szManJobS_l5_step (rec : List V4 → Int → Int → Option ((Int × Unit) ⊕ (Int × Unit))) (y0 : List V4) (y1 : Int) (y2 : Int) : Option ((Int × Unit) ⊕ (Int × Unit)) :=
 let b2 : Bool := decide (y2 < (y0.length : Int))
 bif b2 then
  let e3 : V4 := rd R4 y0 y2
  (laws_szManJob e3.1 e3.2.1 e3.2.2.1 e3.2.2.2.1 e3.2.2.2.2 y1).bind fun r4 =>
  bif decide (0 ≤ y2) && decide (y2 < (y0.length : Int)) then
   bif decide (r4.1 < 0) then
    some (Sum.inl (-1, ()))
   else
    rec y0 r4.1 (wrap64 (y2 + 1))
  else none
 else
  some (Sum.inr (y1, ()))
noncomputable def laws_szManJobS_l5 : Nat → List V4 → Int → Int → Option ((Int × Unit) ⊕ (Int × Unit))
 | 0 => fun _ _ _ => none
 | n + 1 => laws_szManJobS_l5_step (laws_szManJobS_l5 n)
noncomputable def laws_szManJobS_l5.ent : LEntry := ⟨(.cell (.val .bor (.slice R4)) :: (.cell (.val .bor (.int .i64)) :: (sk 3 (.cell (.val .bor (.int .i64)) :: (sk 21 []))))), rk 27 [], [], [], [⟨none, sk 4 (.cell (.val .bor (.int .i64)) :: (sk 22 [])), rk 27 [], [], []⟩, ⟨some 0, sk 1 (.cell (.val .bor (.int .i64)) :: (sk 25 [])), rk 27 [], [], []⟩], fun v => laws_szManJobS_l5 K0 v.1 v.2.1 v.2.2.1⟩
theorem laws_szManJobS_l5.eq : ∀ rec v, evStep laws_szManJobS.E5 (bodyAt 5 f56) laws_szManJobS_l5.ent.ins laws_szManJobS_l5.ent.rts laws_szManJobS_l5.ent.hm laws_szManJobS_l5.ent.nl laws_szManJobS_l5.ent.xs rec v = laws_szManJobS_l5_step (fun c0 c1 c2 => rec (c0, c1, c2, ())) v.1 v.2.1 v.2.2.1 := by intro rec v; kernel_rfl
noncomputable def laws_szManJobS.E : Env := ⟨D, [], [(88, laws_szManJob.ent)], [(5, laws_szManJobS_l5.ent)]⟩
noncomputable def laws_szManJobS (a0 : List V4) (a1 : Int) : Option (Int × Unit) :=
 let x1 : Int := (wrap64 (a1 - (a0.length : Int)))
 bif decide (x1 < 0) then
  some (-1, ())
 else
  (laws_szManJobS_l5 K0 a0 x1 0).bind fun o5 =>
  match o5 with
  | Sum.inl p6 =>
   some (p6.1, ())
  | Sum.inr p7 =>
   some (p7.1, ())
noncomputable def laws_szManJobS.ent : Entry := ⟨[false, false], [.cell (.val .bor (.slice R4)), .cell (.val .bor (.int .i64))], [.cell (.val .bor (.int .i64))], [], fun v => laws_szManJobS v.1 v.2.1⟩
theorem laws_szManJobS.eq : ∀ v, evFn laws_szManJobS.E f56 laws_szManJobS.ent.ptrs laws_szManJobS.ent.ins laws_szManJobS.ent.rets laws_szManJobS.ent.outs v = laws_szManJobS.ent.f v := by intro v; kernel_rfl
theorem laws_szManJobS.fok : ∀ q ∈ [((88 : Nat), laws_szManJob.ent)], EntryOK Pr q.1 q.2 := by
 intro q hq
 simp only [List.mem_cons, List.mem_nil_iff, or_false] at hq
 rcases hq with rfl
 · exact laws_szManJob.ok
theorem laws_szManJobS_l5.it : ∀ n v, iter (evStep laws_szManJobS.E5 (bodyAt 5 f56) laws_szManJobS_l5.ent.ins laws_szManJobS_l5.ent.rts laws_szManJobS_l5.ent.hm laws_szManJobS_l5.ent.nl laws_szManJobS_l5.ent.xs) n v = laws_szManJobS_l5 n v.1 v.2.1 v.2.2.1 := by
 intro n
 induction n with
 | zero => intro v; rfl
 | succ n ih =>
  intro v
  show (evStep laws_szManJobS.E5 (bodyAt 5 f56) laws_szManJobS_l5.ent.ins laws_szManJobS_l5.ent.rts laws_szManJobS_l5.ent.hm laws_szManJobS_l5.ent.nl laws_szManJobS_l5.ent.xs) (iter (evStep laws_szManJobS.E5 (bodyAt 5 f56) laws_szManJobS_l5.ent.ins laws_szManJobS_l5.ent.rts laws_szManJobS_l5.ent.hm laws_szManJobS_l5.ent.nl laws_szManJobS_l5.ent.xs) n) v = _
  rw [laws_szManJobS_l5.eq, show (fun c0 c1 c2 => iter (evStep laws_szManJobS.E5 (bodyAt 5 f56) laws_szManJobS_l5.ent.ins laws_szManJobS_l5.ent.rts laws_szManJobS_l5.ent.hm laws_szManJobS_l5.ent.nl laws_szManJobS_l5.ent.xs) n (c0, c1, c2, ())) = laws_szManJobS_l5 n from by funext c0 c1 c2; exact ih _]
  rfl
theorem laws_szManJobS_l5.fr : firstRegion (bodyAt 5 f56) = 5 := by kernel_rfl
theorem laws_szManJobS_l5.ls : loopsOf (bodyAt 5 f56) = [] := by kernel_rfl
theorem laws_szManJobS_l5.lok {E : Env} (hpin : laws_szManJobS.E5.pin = E.pin) (hfind : find 5 E.loops = some laws_szManJobS_l5.ent) : LoopOK Pr E (bodyAt 5 f56) :=
 loop_of (E1 := laws_szManJobS.E5) (EnvOK.of dok laws_szManJobS.fok) mixed hpin (by rw [laws_szManJobS_l5.fr]; exact hfind) laws_szManJobS_l5.ls (by intro l hl; simp at hl) (fun v => (laws_szManJobS_l5.it K0 v).symm)
theorem laws_szManJobS.ls : loopsOf (bodyOf f56) = [bodyAt 5 f56] := by kernel_rfl
theorem laws_szManJobS.ok : EntryOK Pr 56 laws_szManJobS.ent :=
 entry_ok (E := laws_szManJobS.E) (EnvOK.of dok laws_szManJobS.fok) mixed (fn := f56) (by kernel_rfl) (by kernel_rfl) (by decide) laws_szManJobS.ls (by intro l hl; simp only [List.mem_singleton] at hl; subst hl; exact laws_szManJobS_l5.lok rfl rfl) laws_szManJobS.eq
/-! ### loop.example/g00038/laws.szManager -/
noncomputable def laws_szManager.E : Env := ⟨D, [], [(9, laws_szCluster.ent), (55, laws_szAnswerS.ent), (56, laws_szManJobS.ent)], []⟩
noncomputable def laws_szManager (a0 : List V1) (a1 : List V2) (a2 : List V5) (a3 : Int) (a4 : Int) (a5 : List V3) (a6 : List V4) (a7 : Int) (a8 : Int) : Option (Int × Unit) :=
 (laws_szCluster a0 a1 a2 a3 a4 a8).bind fun r1 =>
 bif decide (r1.1 < 0) then
  some (-1, ())
 else
  (laws_szAnswerS a5 r1.1).bind fun r2 =>
  bif decide (r2.1 < 0) then
   some (-1, ())
  else
   (laws_szManJobS a6 r2.1).bind fun r3 =>
   bif decide (r3.1 < 0) then
    some (-1, ())
   else
    some (r3.1, ())
noncomputable def laws_szManager.ent : Entry := ⟨[false, false], [.agg [.val .bor (.slice R1), .val .bor (.slice R2), .val .bor (.slice R5), .val .bor (.int .i64), .val .bor (.int .i64), .val .bor (.slice R3), .val .bor (.slice R4), .val .bor (.int .i64)], .cell (.val .bor (.int .i64))], [.cell (.val .bor (.int .i64))], [], fun v => laws_szManager v.1 v.2.1 v.2.2.1 v.2.2.2.1 v.2.2.2.2.1 v.2.2.2.2.2.1 v.2.2.2.2.2.2.1 v.2.2.2.2.2.2.2.1 v.2.2.2.2.2.2.2.2.1⟩
theorem laws_szManager.eq : ∀ v, evFn laws_szManager.E f20 laws_szManager.ent.ptrs laws_szManager.ent.ins laws_szManager.ent.rets laws_szManager.ent.outs v = laws_szManager.ent.f v := by intro v; kernel_rfl
theorem laws_szManager.fok : ∀ q ∈ [((9 : Nat), laws_szCluster.ent), ((55 : Nat), laws_szAnswerS.ent), ((56 : Nat), laws_szManJobS.ent)], EntryOK Pr q.1 q.2 := by
 intro q hq
 simp only [List.mem_cons, List.mem_nil_iff, or_false] at hq
 rcases hq with rfl | rfl | rfl
 · exact laws_szCluster.ok
 · exact laws_szAnswerS.ok
 · exact laws_szManJobS.ok
theorem laws_szManager.ls : loopsOf (bodyOf f20) = [] := by kernel_rfl
theorem laws_szManager.ok : EntryOK Pr 20 laws_szManager.ent :=
 entry_ok (E := laws_szManager.E) (EnvOK.of dok laws_szManager.fok) mixed (fn := f20) (by kernel_rfl) (by kernel_rfl) (by decide) laws_szManager.ls (by intro l hl; simp at hl) laws_szManager.eq
/-! ### loop.example/g00038/laws.toNode -/
noncomputable def laws_toNode.E : Env := ⟨D, [], [], []⟩
noncomputable def laws_toNode (a0 : ByteArray) (a1 : Int) (a2 : Int) (a3 : Int) (a4 : Int) (a5 : Bool) (a6 : Bool) : Option (ByteArray × Int × Int × Int × Int × Bool × Bool × Unit) :=
 some (a0, a1, a2, a3, a4, a5, a6, ())
noncomputable def laws_toNode.ent : Entry := ⟨[false], [.agg [.val .bor (.str), .val .bor (.int .i64), .val .bor (.int .i64), .val .bor (.int .i64), .val .bor (.int .i64), .val .bor (.bool), .val .bor (.bool)]], [.agg [.val .bor (.str), .val .bor (.int .i64), .val .bor (.int .i64), .val .bor (.int .i64), .val .bor (.int .i64), .val .bor (.bool), .val .bor (.bool)]], [], fun v => laws_toNode v.1 v.2.1 v.2.2.1 v.2.2.2.1 v.2.2.2.2.1 v.2.2.2.2.2.1 v.2.2.2.2.2.2.1⟩
theorem laws_toNode.eq : ∀ v, evFn laws_toNode.E f75 laws_toNode.ent.ptrs laws_toNode.ent.ins laws_toNode.ent.rets laws_toNode.ent.outs v = laws_toNode.ent.f v := by intro v; kernel_rfl
theorem laws_toNode.fok : ∀ q ∈ ([] : List (Nat × Entry)), EntryOK Pr q.1 q.2 := by intro q hq; simp at hq
theorem laws_toNode.ls : loopsOf (bodyOf f75) = [] := by kernel_rfl
theorem laws_toNode.ok : EntryOK Pr 75 laws_toNode.ent :=
 entry_ok (E := laws_toNode.E) (EnvOK.of dok laws_toNode.fok) mixed (fn := f75) (by kernel_rfl) (by kernel_rfl) (by decide) laws_toNode.ls (by intro l hl; simp at hl) laws_toNode.eq
/-! ### loop.example/g00038/laws.toNodeS -/
noncomputable def laws_toNodeS.E3 : Env := ⟨D, [], [(75, laws_toNode.ent)], []⟩
noncomputable def laws_toNodeS_l3_step (rec : List V1 → Int → List V1 → Option ((List V1 × Unit))) (y0 : List V1) (y1 : Int) (y2 : List V1) : Option ((List V1 × Unit)) :=
 let b2 : Bool := decide (y1 < (y0.length : Int))
 bif b2 then
  let e3 : V1 := rd R1 y0 y1
  (laws_toNode e3.1 e3.2.1 e3.2.2.1 e3.2.2.2.1 e3.2.2.2.2.1 e3.2.2.2.2.2.1 e3.2.2.2.2.2.2).bind fun r4 =>
  let l6 : List V1 := y2.set y1.toNat (r4.1, r4.2.1, r4.2.2.1, r4.2.2.2.1, r4.2.2.2.2.1, r4.2.2.2.2.2.1, r4.2.2.2.2.2.2.1)
  bif (decide (0 ≤ y1) && decide (y1 < (y0.length : Int))) && (decide (0 ≤ y1) && decide (y1 < (y2.length : Int))) then
   rec y0 (wrap64 (y1 + 1)) l6
  else none
 else
  some (y2, ())
noncomputable def laws_toNodeS_l3 : Nat → List V1 → Int → List V1 → Option ((List V1 × Unit))
 | 0 => fun _ _ _ => none
 | n + 1 => laws_toNodeS_l3_step (laws_toNodeS_l3 n)
noncomputable def laws_toNodeS_l3.ent : LEntry := ⟨(.cell (.val .bor (.slice R1)) :: (sk 2 (.cell (.fix (.view 7 0)) :: (.cell (.val .bor (.int .i64)) :: (sk 18 []))))), rk 7 ([.val .own (.slice R1)] :: (rk 15 [])), [], [], [⟨some 0, sk 3 (.cell (.fix (.view 7 0)) :: (sk 19 [])), rk 7 ([.val .own (.slice R1)] :: (rk 15 [])), [], []⟩], fun v => laws_toNodeS_l3 K0 v.1 v.2.1 v.2.2.1⟩
theorem laws_toNodeS_l3.eq : ∀ rec v, evStep laws_toNodeS.E3 (bodyAt 3 f38) laws_toNodeS_l3.ent.ins laws_toNodeS_l3.ent.rts laws_toNodeS_l3.ent.hm laws_toNodeS_l3.ent.nl laws_toNodeS_l3.ent.xs rec v = laws_toNodeS_l3_step (fun c0 c1 c2 => rec (c0, c1, c2, ())) v.1 v.2.1 v.2.2.1 := by intro rec v; kernel_rfl
noncomputable def laws_toNodeS.E : Env := ⟨D, [], [(75, laws_toNode.ent)], [(3, laws_toNodeS_l3.ent)]⟩
noncomputable def laws_toNodeS (a0 : List V1) : Option (List V1 × Unit) :=
 let l1 : List V1 := List.replicate ((a0.length : Int).toNat) (Ty.dflt R1)
 bif decide (0 ≤ (a0.length : Int)) && decide ((a0.length : Int) ≤ (a0.length : Int)) && roomy (a0.length : Int) 56 then
  (laws_toNodeS_l3 K0 a0 0 l1).bind fun o7 =>
  some (o7.1, ())
 else none
noncomputable def laws_toNodeS.ent : Entry := ⟨[false], [.cell (.val .bor (.slice R1))], [.cell (.val .own (.slice R1))], [], fun v => laws_toNodeS v.1⟩
theorem laws_toNodeS.eq : ∀ v, evFn laws_toNodeS.E f38 laws_toNodeS.ent.ptrs laws_toNodeS.ent.ins laws_toNodeS.ent.rets laws_toNodeS.ent.outs v = laws_toNodeS.ent.f v := by intro v; kernel_rfl
theorem laws_toNodeS.fok : ∀ q ∈ [((75 : Nat), laws_toNode.ent)], EntryOK Pr q.1 q.2 := by
 intro q hq
 simp only [List.mem_cons, List.mem_nil_iff, or_false] at hq
 rcases hq with rfl
 · exact laws_toNode.ok
theorem laws_toNodeS_l3.it : ∀ n v, iter (evStep laws_toNodeS.E3 (bodyAt 3 f38) laws_toNodeS_l3.ent.ins laws_toNodeS_l3.ent.rts laws_toNodeS_l3.ent.hm laws_toNodeS_l3.ent.nl laws_toNodeS_l3.ent.xs) n v = laws_toNodeS_l3 n v.1 v.2.1 v.2.2.1 := by
 intro n
 induction n with
 | zero => intro v; rfl
 | succ n ih =>
  intro v
  show (evStep laws_toNodeS.E3 (bodyAt 3 f38) laws_toNodeS_l3.ent.ins laws_toNodeS_l3.ent.rts laws_toNodeS_l3.ent.hm laws_toNodeS_l3.ent.nl laws_toNodeS_l3.ent.xs) (iter (evStep laws_toNodeS.E3 (bodyAt 3 f38) laws_toNodeS_l3.ent.ins laws_toNodeS_l3.ent.rts laws_toNodeS_l3.ent.hm laws_toNodeS_l3.ent.nl laws_toNodeS_l3.ent.xs) n) v = _
  rw [laws_toNodeS_l3.eq, show (fun c0 c1 c2 => iter (evStep laws_toNodeS.E3 (bodyAt 3 f38) laws_toNodeS_l3.ent.ins laws_toNodeS_l3.ent.rts laws_toNodeS_l3.ent.hm laws_toNodeS_l3.ent.nl laws_toNodeS_l3.ent.xs) n (c0, c1, c2, ())) = laws_toNodeS_l3 n from by funext c0 c1 c2; exact ih _]
  rfl
theorem laws_toNodeS_l3.fr : firstRegion (bodyAt 3 f38) = 3 := by kernel_rfl
theorem laws_toNodeS_l3.ls : loopsOf (bodyAt 3 f38) = [] := by kernel_rfl
theorem laws_toNodeS_l3.lok {E : Env} (hpin : laws_toNodeS.E3.pin = E.pin) (hfind : find 3 E.loops = some laws_toNodeS_l3.ent) : LoopOK Pr E (bodyAt 3 f38) :=
 loop_of (E1 := laws_toNodeS.E3) (EnvOK.of dok laws_toNodeS.fok) mixed hpin (by rw [laws_toNodeS_l3.fr]; exact hfind) laws_toNodeS_l3.ls (by intro l hl; simp at hl) (fun v => (laws_toNodeS_l3.it K0 v).symm)
theorem laws_toNodeS.ls : loopsOf (bodyOf f38) = [bodyAt 3 f38] := by kernel_rfl
theorem laws_toNodeS.ok : EntryOK Pr 38 laws_toNodeS.ent :=
 entry_ok (E := laws_toNodeS.E) (EnvOK.of dok laws_toNodeS.fok) mixed (fn := f38) (by kernel_rfl) (by kernel_rfl) (by decide) laws_toNodeS.ls (by intro l hl; simp only [List.mem_singleton] at hl; subst hl; exact laws_toNodeS_l3.lok rfl rfl) laws_toNodeS.eq
/-! ### loop.example/g00038/laws.toVm -/
noncomputable def laws_toVm.E : Env := ⟨D, [], [], []⟩
noncomputable def laws_toVm (a0 : ByteArray) (a1 : Int) (a2 : Int) (a3 : Int) (a4 : Int) (a5 : Int) (a6 : ByteArray) (a7 : Int) : Option (ByteArray × Int × Int × Int × Int × Int × ByteArray × Int × Unit) :=
 some (a0, a1, a2, a3, a4, a5, a6, a7, ())
noncomputable def laws_toVm.ent : Entry := ⟨[false], [.agg [.val .bor (.str), .val .bor (.int .i64), .val .bor (.int .i64), .val .bor (.int .i64), .val .bor (.int .i64), .val .bor (.int .i64), .val .bor (.str), .val .bor (.int .i64)]], [.agg [.val .bor (.str), .val .bor (.int .i64), .val .bor (.int .i64), .val .bor (.int .i64), .val .bor (.int .i64), .val .bor (.int .i64), .val .bor (.str), .val .bor (.int .i64)]], [], fun v => laws_toVm v.1 v.2.1 v.2.2.1 v.2.2.2.1 v.2.2.2.2.1 v.2.2.2.2.2.1 v.2.2.2.2.2.2.1 v.2.2.2.2.2.2.2.1⟩
theorem laws_toVm.eq : ∀ v, evFn laws_toVm.E f16 laws_toVm.ent.ptrs laws_toVm.ent.ins laws_toVm.ent.rets laws_toVm.ent.outs v = laws_toVm.ent.f v := by intro v; kernel_rfl
theorem laws_toVm.fok : ∀ q ∈ ([] : List (Nat × Entry)), EntryOK Pr q.1 q.2 := by intro q hq; simp at hq
theorem laws_toVm.ls : loopsOf (bodyOf f16) = [] := by kernel_rfl
theorem laws_toVm.ok : EntryOK Pr 16 laws_toVm.ent :=
 entry_ok (E := laws_toVm.E) (EnvOK.of dok laws_toVm.fok) mixed (fn := f16) (by kernel_rfl) (by kernel_rfl) (by decide) laws_toVm.ls (by intro l hl; simp at hl) laws_toVm.eq
/-! ### loop.example/g00038/laws.toVmS -/
noncomputable def laws_toVmS.E3 : Env := ⟨D, [], [(16, laws_toVm.ent)], []⟩
noncomputable def laws_toVmS_l3_step (rec : List V2 → Int → List V2 → Option ((List V2 × Unit))) (y0 : List V2) (y1 : Int) (y2 : List V2) : Option ((List V2 × Unit)) :=
 let b2 : Bool := decide (y1 < (y0.length : Int))
 bif b2 then
  let e3 : V2 := rd R2 y0 y1
  (laws_toVm e3.1 e3.2.1 e3.2.2.1 e3.2.2.2.1 e3.2.2.2.2.1 e3.2.2.2.2.2.1 e3.2.2.2.2.2.2.1 e3.2.2.2.2.2.2.2).bind fun r4 =>
  let l6 : List V2 := y2.set y1.toNat (r4.1, r4.2.1, r4.2.2.1, r4.2.2.2.1, r4.2.2.2.2.1, r4.2.2.2.2.2.1, r4.2.2.2.2.2.2.1, r4.2.2.2.2.2.2.2.1)
  bif (decide (0 ≤ y1) && decide (y1 < (y0.length : Int))) && (decide (0 ≤ y1) && decide (y1 < (y2.length : Int))) then
   rec y0 (wrap64 (y1 + 1)) l6
  else none
 else
  some (y2, ())
noncomputable def laws_toVmS_l3 : Nat → List V2 → Int → List V2 → Option ((List V2 × Unit))
 | 0 => fun _ _ _ => none
 | n + 1 => laws_toVmS_l3_step (laws_toVmS_l3 n)
noncomputable def laws_toVmS_l3.ent : LEntry := ⟨(.cell (.val .bor (.slice R2)) :: (sk 2 (.cell (.fix (.view 7 0)) :: (.cell (.val .bor (.int .i64)) :: (sk 18 []))))), rk 7 ([.val .own (.slice R2)] :: (rk 15 [])), [], [], [⟨some 0, sk 3 (.cell (.fix (.view 7 0)) :: (sk 19 [])), rk 7 ([.val .own (.slice R2)] :: (rk 15 [])), [], []⟩], fun v => laws_toVmS_l3 K0 v.1 v.2.1 v.2.2.1⟩
theorem laws_toVmS_l3.eq : ∀ rec v, evStep laws_toVmS.E3 (bodyAt 3 f39) laws_toVmS_l3.ent.ins laws_toVmS_l3.ent.rts laws_toVmS_l3.ent.hm laws_toVmS_l3.ent.nl laws_toVmS_l3.ent.xs rec v = laws_toVmS_l3_step (fun c0 c1 c2 => rec (c0, c1, c2, ())) v.1 v.2.1 v.2.2.1 := by intro rec v; kernel_rfl
noncomputable def laws_toVmS.E : Env := ⟨D, [], [(16, laws_toVm.ent)], [(3, laws_toVmS_l3.ent)]⟩
noncomputable def laws_toVmS (a0 : List V2) : Option (List V2 × Unit) :=
 let l1 : List V2 := List.replicate ((a0.length : Int).toNat) (Ty.dflt R2)
 bif decide (0 ≤ (a0.length : Int)) && decide ((a0.length : Int) ≤ (a0.length : Int)) && roomy (a0.length : Int) 80 then
  (laws_toVmS_l3 K0 a0 0 l1).bind fun o7 =>
  some (o7.1, ())
 else none
noncomputable def laws_toVmS.ent : Entry := ⟨[false], [.cell (.val .bor (.slice R2))], [.cell (.val .own (.slice R2))], [], fun v => laws_toVmS v.1⟩
theorem laws_toVmS.eq : ∀ v, evFn laws_toVmS.E f39 laws_toVmS.ent.ptrs laws_toVmS.ent.ins laws_toVmS.ent.rets laws_toVmS.ent.outs v = laws_toVmS.ent.f v := by intro v; kernel_rfl
theorem laws_toVmS.fok : ∀ q ∈ [((16 : Nat), laws_toVm.ent)], EntryOK Pr q.1 q.2 := by
 intro q hq
 simp only [List.mem_cons, List.mem_nil_iff, or_false] at hq
 rcases hq with rfl
 · exact laws_toVm.ok
theorem laws_toVmS_l3.it : ∀ n v, iter (evStep laws_toVmS.E3 (bodyAt 3 f39) laws_toVmS_l3.ent.ins laws_toVmS_l3.ent.rts laws_toVmS_l3.ent.hm laws_toVmS_l3.ent.nl laws_toVmS_l3.ent.xs) n v = laws_toVmS_l3 n v.1 v.2.1 v.2.2.1 := by
 intro n
 induction n with
 | zero => intro v; rfl
 | succ n ih =>
  intro v
  show (evStep laws_toVmS.E3 (bodyAt 3 f39) laws_toVmS_l3.ent.ins laws_toVmS_l3.ent.rts laws_toVmS_l3.ent.hm laws_toVmS_l3.ent.nl laws_toVmS_l3.ent.xs) (iter (evStep laws_toVmS.E3 (bodyAt 3 f39) laws_toVmS_l3.ent.ins laws_toVmS_l3.ent.rts laws_toVmS_l3.ent.hm laws_toVmS_l3.ent.nl laws_toVmS_l3.ent.xs) n) v = _
  rw [laws_toVmS_l3.eq, show (fun c0 c1 c2 => iter (evStep laws_toVmS.E3 (bodyAt 3 f39) laws_toVmS_l3.ent.ins laws_toVmS_l3.ent.rts laws_toVmS_l3.ent.hm laws_toVmS_l3.ent.nl laws_toVmS_l3.ent.xs) n (c0, c1, c2, ())) = laws_toVmS_l3 n from by funext c0 c1 c2; exact ih _]
  rfl
theorem laws_toVmS_l3.fr : firstRegion (bodyAt 3 f39) = 3 := by kernel_rfl
theorem laws_toVmS_l3.ls : loopsOf (bodyAt 3 f39) = [] := by kernel_rfl
theorem laws_toVmS_l3.lok {E : Env} (hpin : laws_toVmS.E3.pin = E.pin) (hfind : find 3 E.loops = some laws_toVmS_l3.ent) : LoopOK Pr E (bodyAt 3 f39) :=
 loop_of (E1 := laws_toVmS.E3) (EnvOK.of dok laws_toVmS.fok) mixed hpin (by rw [laws_toVmS_l3.fr]; exact hfind) laws_toVmS_l3.ls (by intro l hl; simp at hl) (fun v => (laws_toVmS_l3.it K0 v).symm)
theorem laws_toVmS.ls : loopsOf (bodyOf f39) = [bodyAt 3 f39] := by kernel_rfl
theorem laws_toVmS.ok : EntryOK Pr 39 laws_toVmS.ent :=
 entry_ok (E := laws_toVmS.E) (EnvOK.of dok laws_toVmS.fok) mixed (fn := f39) (by kernel_rfl) (by kernel_rfl) (by decide) laws_toVmS.ls (by intro l hl; simp only [List.mem_singleton] at hl; subst hl; exact laws_toVmS_l3.lok rfl rfl) laws_toVmS.eq
/-! ### loop.example/g00038/laws.toTenant -/
noncomputable def laws_toTenant.E : Env := ⟨D, [], [], []⟩
noncomputable def laws_toTenant (a0 : Int) (a1 : Int) (a2 : Int) : Option (Int × Int × Int × Unit) :=
 some (a0, a1, a2, ())
noncomputable def laws_toTenant.ent : Entry := ⟨[false], [.agg [.val .bor (.int .i64), .val .bor (.int .i64), .val .bor (.int .i64)]], [.agg [.val .bor (.int .i64), .val .bor (.int .i64), .val .bor (.int .i64)]], [], fun v => laws_toTenant v.1 v.2.1 v.2.2.1⟩
theorem laws_toTenant.eq : ∀ v, evFn laws_toTenant.E f76 laws_toTenant.ent.ptrs laws_toTenant.ent.ins laws_toTenant.ent.rets laws_toTenant.ent.outs v = laws_toTenant.ent.f v := by intro v; kernel_rfl
theorem laws_toTenant.fok : ∀ q ∈ ([] : List (Nat × Entry)), EntryOK Pr q.1 q.2 := by intro q hq; simp at hq
theorem laws_toTenant.ls : loopsOf (bodyOf f76) = [] := by kernel_rfl
theorem laws_toTenant.ok : EntryOK Pr 76 laws_toTenant.ent :=
 entry_ok (E := laws_toTenant.E) (EnvOK.of dok laws_toTenant.fok) mixed (fn := f76) (by kernel_rfl) (by kernel_rfl) (by decide) laws_toTenant.ls (by intro l hl; simp at hl) laws_toTenant.eq
/-! ### loop.example/g00038/laws.toTenantS -/
noncomputable def laws_toTenantS.E3 : Env := ⟨D, [], [(76, laws_toTenant.ent)], []⟩
noncomputable def laws_toTenantS_l3_step (rec : List V5 → Int → List V5 → Option ((List V5 × Unit))) (y0 : List V5) (y1 : Int) (y2 : List V5) : Option ((List V5 × Unit)) :=
 let b2 : Bool := decide (y1 < (y0.length : Int))
 bif b2 then
  let e3 : V5 := rd R5 y0 y1
  (laws_toTenant e3.1 e3.2.1 e3.2.2).bind fun r4 =>
  let l6 : List V5 := y2.set y1.toNat (r4.1, r4.2.1, r4.2.2.1)
  bif (decide (0 ≤ y1) && decide (y1 < (y0.length : Int))) && (decide (0 ≤ y1) && decide (y1 < (y2.length : Int))) then
   rec y0 (wrap64 (y1 + 1)) l6
  else none
 else
  some (y2, ())
noncomputable def laws_toTenantS_l3 : Nat → List V5 → Int → List V5 → Option ((List V5 × Unit))
 | 0 => fun _ _ _ => none
 | n + 1 => laws_toTenantS_l3_step (laws_toTenantS_l3 n)
noncomputable def laws_toTenantS_l3.ent : LEntry := ⟨(.cell (.val .bor (.slice R5)) :: (sk 2 (.cell (.fix (.view 7 0)) :: (.cell (.val .bor (.int .i64)) :: (sk 18 []))))), rk 7 ([.val .own (.slice R5)] :: (rk 15 [])), [], [], [⟨some 0, sk 3 (.cell (.fix (.view 7 0)) :: (sk 19 [])), rk 7 ([.val .own (.slice R5)] :: (rk 15 [])), [], []⟩], fun v => laws_toTenantS_l3 K0 v.1 v.2.1 v.2.2.1⟩
theorem laws_toTenantS_l3.eq : ∀ rec v, evStep laws_toTenantS.E3 (bodyAt 3 f40) laws_toTenantS_l3.ent.ins laws_toTenantS_l3.ent.rts laws_toTenantS_l3.ent.hm laws_toTenantS_l3.ent.nl laws_toTenantS_l3.ent.xs rec v = laws_toTenantS_l3_step (fun c0 c1 c2 => rec (c0, c1, c2, ())) v.1 v.2.1 v.2.2.1 := by intro rec v; kernel_rfl
noncomputable def laws_toTenantS.E : Env := ⟨D, [], [(76, laws_toTenant.ent)], [(3, laws_toTenantS_l3.ent)]⟩
noncomputable def laws_toTenantS (a0 : List V5) : Option (List V5 × Unit) :=
 let l1 : List V5 := List.replicate ((a0.length : Int).toNat) (Ty.dflt R5)
 bif decide (0 ≤ (a0.length : Int)) && decide ((a0.length : Int) ≤ (a0.length : Int)) && roomy (a0.length : Int) 24 then
  (laws_toTenantS_l3 K0 a0 0 l1).bind fun o7 =>
  some (o7.1, ())
 else none
noncomputable def laws_toTenantS.ent : Entry := ⟨[false], [.cell (.val .bor (.slice R5))], [.cell (.val .own (.slice R5))], [], fun v => laws_toTenantS v.1⟩
theorem laws_toTenantS.eq : ∀ v, evFn laws_toTenantS.E f40 laws_toTenantS.ent.ptrs laws_toTenantS.ent.ins laws_toTenantS.ent.rets laws_toTenantS.ent.outs v = laws_toTenantS.ent.f v := by intro v; kernel_rfl
theorem laws_toTenantS.fok : ∀ q ∈ [((76 : Nat), laws_toTenant.ent)], EntryOK Pr q.1 q.2 := by
 intro q hq
 simp only [List.mem_cons, List.mem_nil_iff, or_false] at hq
 rcases hq with rfl
 · exact laws_toTenant.ok
theorem laws_toTenantS_l3.it : ∀ n v, iter (evStep laws_toTenantS.E3 (bodyAt 3 f40) laws_toTenantS_l3.ent.ins laws_toTenantS_l3.ent.rts laws_toTenantS_l3.ent.hm laws_toTenantS_l3.ent.nl laws_toTenantS_l3.ent.xs) n v = laws_toTenantS_l3 n v.1 v.2.1 v.2.2.1 := by
 intro n
 induction n with
 | zero => intro v; rfl
 | succ n ih =>
  intro v
  show (evStep laws_toTenantS.E3 (bodyAt 3 f40) laws_toTenantS_l3.ent.ins laws_toTenantS_l3.ent.rts laws_toTenantS_l3.ent.hm laws_toTenantS_l3.ent.nl laws_toTenantS_l3.ent.xs) (iter (evStep laws_toTenantS.E3 (bodyAt 3 f40) laws_toTenantS_l3.ent.ins laws_toTenantS_l3.ent.rts laws_toTenantS_l3.ent.hm laws_toTenantS_l3.ent.nl laws_toTenantS_l3.ent.xs) n) v = _
  rw [laws_toTenantS_l3.eq, show (fun c0 c1 c2 => iter (evStep laws_toTenantS.E3 (bodyAt 3 f40) laws_toTenantS_l3.ent.ins laws_toTenantS_l3.ent.rts laws_toTenantS_l3.ent.hm laws_toTenantS_l3.ent.nl laws_toTenantS_l3.ent.xs) n (c0, c1, c2, ())) = laws_toTenantS_l3 n from by funext c0 c1 c2; exact ih _]
  rfl
theorem laws_toTenantS_l3.fr : firstRegion (bodyAt 3 f40) = 3 := by kernel_rfl
theorem laws_toTenantS_l3.ls : loopsOf (bodyAt 3 f40) = [] := by kernel_rfl
theorem laws_toTenantS_l3.lok {E : Env} (hpin : laws_toTenantS.E3.pin = E.pin) (hfind : find 3 E.loops = some laws_toTenantS_l3.ent) : LoopOK Pr E (bodyAt 3 f40) :=
 loop_of (E1 := laws_toTenantS.E3) (EnvOK.of dok laws_toTenantS.fok) mixed hpin (by rw [laws_toTenantS_l3.fr]; exact hfind) laws_toTenantS_l3.ls (by intro l hl; simp at hl) (fun v => (laws_toTenantS_l3.it K0 v).symm)
theorem laws_toTenantS.ls : loopsOf (bodyOf f40) = [bodyAt 3 f40] := by kernel_rfl
theorem laws_toTenantS.ok : EntryOK Pr 40 laws_toTenantS.ent :=
 entry_ok (E := laws_toTenantS.E) (EnvOK.of dok laws_toTenantS.fok) mixed (fn := f40) (by kernel_rfl) (by kernel_rfl) (by decide) laws_toTenantS.ls (by intro l hl; simp only [List.mem_singleton] at hl; subst hl; exact laws_toTenantS_l3.lok rfl rfl) laws_toTenantS.eq
/-! ### loop.example/g00038/laws.toCluster -/
noncomputable def laws_toCluster.E : Env := ⟨D, [], [(38, laws_toNodeS.ent), (39, laws_toVmS.ent), (40, laws_toTenantS.ent)], []⟩
noncomputable def laws_toCluster (a0 : List V1) (a1 : List V2) (a2 : List V5) (a3 : Int) (a4 : Int) : Option (List V1 × List V2 × List V5 × Int × Int × Unit) :=
 (laws_toNodeS a0).bind fun r1 =>
 (laws_toVmS a1).bind fun r2 =>
 (laws_toTenantS a2).bind fun r3 =>
 some (r1.1, r2.1, r3.1, a3, a4, ())
noncomputable def laws_toCluster.ent : Entry := ⟨[false], [.agg [.val .bor (.slice R1), .val .bor (.slice R2), .val .bor (.slice R5), .val .bor (.int .i64), .val .bor (.int .i64)]], [.agg [.val .own (.slice R1), .val .own (.slice R2), .val .own (.slice R5), .val .bor (.int .i64), .val .bor (.int .i64)]], [], fun v => laws_toCluster v.1 v.2.1 v.2.2.1 v.2.2.2.1 v.2.2.2.2.1⟩
theorem laws_toCluster.eq : ∀ v, evFn laws_toCluster.E f11 laws_toCluster.ent.ptrs laws_toCluster.ent.ins laws_toCluster.ent.rets laws_toCluster.ent.outs v = laws_toCluster.ent.f v := by intro v; kernel_rfl
theorem laws_toCluster.fok : ∀ q ∈ [((38 : Nat), laws_toNodeS.ent), ((39 : Nat), laws_toVmS.ent), ((40 : Nat), laws_toTenantS.ent)], EntryOK Pr q.1 q.2 := by
 intro q hq
 simp only [List.mem_cons, List.mem_nil_iff, or_false] at hq
 rcases hq with rfl | rfl | rfl
 · exact laws_toNodeS.ok
 · exact laws_toVmS.ok
 · exact laws_toTenantS.ok
theorem laws_toCluster.ls : loopsOf (bodyOf f11) = [] := by kernel_rfl
theorem laws_toCluster.ok : EntryOK Pr 11 laws_toCluster.ent :=
 entry_ok (E := laws_toCluster.E) (EnvOK.of dok laws_toCluster.fok) mixed (fn := f11) (by kernel_rfl) (by kernel_rfl) (by decide) laws_toCluster.ls (by intro l hl; simp at hl) laws_toCluster.eq
/-! ### loop.example/g00038/laws.toAnswer -/
noncomputable def laws_toAnswer.E : Env := ⟨D, [], [], []⟩
noncomputable def laws_toAnswer (a0 : Int) (a1 : ByteArray) (a2 : ByteArray) : Option (Int × ByteArray × ByteArray × Unit) :=
 some (a0, a1, a2, ())
noncomputable def laws_toAnswer.ent : Entry := ⟨[false], [.agg [.val .bor (.int .i64), .val .bor (.str), .val .bor (.str)]], [.agg [.val .bor (.int .i64), .val .bor (.str), .val .bor (.str)]], [], fun v => laws_toAnswer v.1 v.2.1 v.2.2.1⟩
theorem laws_toAnswer.eq : ∀ v, evFn laws_toAnswer.E f89 laws_toAnswer.ent.ptrs laws_toAnswer.ent.ins laws_toAnswer.ent.rets laws_toAnswer.ent.outs v = laws_toAnswer.ent.f v := by intro v; kernel_rfl
theorem laws_toAnswer.fok : ∀ q ∈ ([] : List (Nat × Entry)), EntryOK Pr q.1 q.2 := by intro q hq; simp at hq
theorem laws_toAnswer.ls : loopsOf (bodyOf f89) = [] := by kernel_rfl
theorem laws_toAnswer.ok : EntryOK Pr 89 laws_toAnswer.ent :=
 entry_ok (E := laws_toAnswer.E) (EnvOK.of dok laws_toAnswer.fok) mixed (fn := f89) (by kernel_rfl) (by kernel_rfl) (by decide) laws_toAnswer.ls (by intro l hl; simp at hl) laws_toAnswer.eq
/-! ### loop.example/g00038/laws.toAnswerS -/
noncomputable def laws_toAnswerS.E3 : Env := ⟨D, [], [(89, laws_toAnswer.ent)], []⟩
noncomputable def laws_toAnswerS_l3_step (rec : List V3 → Int → List V3 → Option ((List V3 × Unit))) (y0 : List V3) (y1 : Int) (y2 : List V3) : Option ((List V3 × Unit)) :=
 let b2 : Bool := decide (y1 < (y0.length : Int))
 bif b2 then
  let e3 : V3 := rd R3 y0 y1
  (laws_toAnswer e3.1 e3.2.1 e3.2.2).bind fun r4 =>
  let l6 : List V3 := y2.set y1.toNat (r4.1, r4.2.1, r4.2.2.1)
  bif (decide (0 ≤ y1) && decide (y1 < (y0.length : Int))) && (decide (0 ≤ y1) && decide (y1 < (y2.length : Int))) then
   rec y0 (wrap64 (y1 + 1)) l6
  else none
 else
  some (y2, ())
noncomputable def laws_toAnswerS_l3 : Nat → List V3 → Int → List V3 → Option ((List V3 × Unit))
 | 0 => fun _ _ _ => none
 | n + 1 => laws_toAnswerS_l3_step (laws_toAnswerS_l3 n)
noncomputable def laws_toAnswerS_l3.ent : LEntry := ⟨(.cell (.val .bor (.slice R3)) :: (sk 2 (.cell (.fix (.view 7 0)) :: (.cell (.val .bor (.int .i64)) :: (sk 18 []))))), rk 7 ([.val .own (.slice R3)] :: (rk 15 [])), [], [], [⟨some 0, sk 3 (.cell (.fix (.view 7 0)) :: (sk 19 [])), rk 7 ([.val .own (.slice R3)] :: (rk 15 [])), [], []⟩], fun v => laws_toAnswerS_l3 K0 v.1 v.2.1 v.2.2.1⟩
theorem laws_toAnswerS_l3.eq : ∀ rec v, evStep laws_toAnswerS.E3 (bodyAt 3 f58) laws_toAnswerS_l3.ent.ins laws_toAnswerS_l3.ent.rts laws_toAnswerS_l3.ent.hm laws_toAnswerS_l3.ent.nl laws_toAnswerS_l3.ent.xs rec v = laws_toAnswerS_l3_step (fun c0 c1 c2 => rec (c0, c1, c2, ())) v.1 v.2.1 v.2.2.1 := by intro rec v; kernel_rfl
noncomputable def laws_toAnswerS.E : Env := ⟨D, [], [(89, laws_toAnswer.ent)], [(3, laws_toAnswerS_l3.ent)]⟩
noncomputable def laws_toAnswerS (a0 : List V3) : Option (List V3 × Unit) :=
 let l1 : List V3 := List.replicate ((a0.length : Int).toNat) (Ty.dflt R3)
 bif decide (0 ≤ (a0.length : Int)) && decide ((a0.length : Int) ≤ (a0.length : Int)) && roomy (a0.length : Int) 40 then
  (laws_toAnswerS_l3 K0 a0 0 l1).bind fun o7 =>
  some (o7.1, ())
 else none
noncomputable def laws_toAnswerS.ent : Entry := ⟨[false], [.cell (.val .bor (.slice R3))], [.cell (.val .own (.slice R3))], [], fun v => laws_toAnswerS v.1⟩
theorem laws_toAnswerS.eq : ∀ v, evFn laws_toAnswerS.E f58 laws_toAnswerS.ent.ptrs laws_toAnswerS.ent.ins laws_toAnswerS.ent.rets laws_toAnswerS.ent.outs v = laws_toAnswerS.ent.f v := by intro v; kernel_rfl
theorem laws_toAnswerS.fok : ∀ q ∈ [((89 : Nat), laws_toAnswer.ent)], EntryOK Pr q.1 q.2 := by
 intro q hq
 simp only [List.mem_cons, List.mem_nil_iff, or_false] at hq
 rcases hq with rfl
 · exact laws_toAnswer.ok
theorem laws_toAnswerS_l3.it : ∀ n v, iter (evStep laws_toAnswerS.E3 (bodyAt 3 f58) laws_toAnswerS_l3.ent.ins laws_toAnswerS_l3.ent.rts laws_toAnswerS_l3.ent.hm laws_toAnswerS_l3.ent.nl laws_toAnswerS_l3.ent.xs) n v = laws_toAnswerS_l3 n v.1 v.2.1 v.2.2.1 := by
 intro n
 induction n with
 | zero => intro v; rfl
 | succ n ih =>
  intro v
  show (evStep laws_toAnswerS.E3 (bodyAt 3 f58) laws_toAnswerS_l3.ent.ins laws_toAnswerS_l3.ent.rts laws_toAnswerS_l3.ent.hm laws_toAnswerS_l3.ent.nl laws_toAnswerS_l3.ent.xs) (iter (evStep laws_toAnswerS.E3 (bodyAt 3 f58) laws_toAnswerS_l3.ent.ins laws_toAnswerS_l3.ent.rts laws_toAnswerS_l3.ent.hm laws_toAnswerS_l3.ent.nl laws_toAnswerS_l3.ent.xs) n) v = _
  rw [laws_toAnswerS_l3.eq, show (fun c0 c1 c2 => iter (evStep laws_toAnswerS.E3 (bodyAt 3 f58) laws_toAnswerS_l3.ent.ins laws_toAnswerS_l3.ent.rts laws_toAnswerS_l3.ent.hm laws_toAnswerS_l3.ent.nl laws_toAnswerS_l3.ent.xs) n (c0, c1, c2, ())) = laws_toAnswerS_l3 n from by funext c0 c1 c2; exact ih _]
  rfl
theorem laws_toAnswerS_l3.fr : firstRegion (bodyAt 3 f58) = 3 := by kernel_rfl
theorem laws_toAnswerS_l3.ls : loopsOf (bodyAt 3 f58) = [] := by kernel_rfl
theorem laws_toAnswerS_l3.lok {E : Env} (hpin : laws_toAnswerS.E3.pin = E.pin) (hfind : find 3 E.loops = some laws_toAnswerS_l3.ent) : LoopOK Pr E (bodyAt 3 f58) :=
 loop_of (E1 := laws_toAnswerS.E3) (EnvOK.of dok laws_toAnswerS.fok) mixed hpin (by rw [laws_toAnswerS_l3.fr]; exact hfind) laws_toAnswerS_l3.ls (by intro l hl; simp at hl) (fun v => (laws_toAnswerS_l3.it K0 v).symm)
theorem laws_toAnswerS.ls : loopsOf (bodyOf f58) = [bodyAt 3 f58] := by kernel_rfl
theorem laws_toAnswerS.ok : EntryOK Pr 58 laws_toAnswerS.ent :=
 entry_ok (E := laws_toAnswerS.E) (EnvOK.of dok laws_toAnswerS.fok) mixed (fn := f58) (by kernel_rfl) (by kernel_rfl) (by decide) laws_toAnswerS.ls (by intro l hl; simp only [List.mem_singleton] at hl; subst hl; exact laws_toAnswerS_l3.lok rfl rfl) laws_toAnswerS.eq
/-! ### loop.example/g00038/laws.toStringS -/
noncomputable def laws_toStringS.E3 : Env := ⟨D, [], [], []⟩
noncomputable def laws_toStringS_l3_step (rec : List ByteArray → Int → List ByteArray → Option ((List ByteArray × Unit))) (y0 : List ByteArray) (y1 : Int) (y2 : List ByteArray) : Option ((List ByteArray × Unit)) :=
 let b2 : Bool := decide (y1 < (y0.length : Int))
 bif b2 then
  let l3 : List ByteArray := y2.set y1.toNat (rd (.str) y0 y1)
  bif (decide (0 ≤ y1) && decide (y1 < (y0.length : Int))) && (decide (0 ≤ y1) && decide (y1 < (y2.length : Int))) then
   rec y0 (wrap64 (y1 + 1)) l3
  else none
 else
  some (y2, ())
noncomputable def laws_toStringS_l3 : Nat → List ByteArray → Int → List ByteArray → Option ((List ByteArray × Unit))
 | 0 => fun _ _ _ => none
 | n + 1 => laws_toStringS_l3_step (laws_toStringS_l3 n)
noncomputable def laws_toStringS_l3.ent : LEntry := ⟨(.cell (.val .bor (.slice (.str))) :: (sk 2 (.cell (.fix (.view 7 0)) :: (.cell (.val .bor (.int .i64)) :: (sk 17 []))))), rk 7 ([.val .own (.slice (.str))] :: (rk 14 [])), [], [], [⟨some 0, sk 3 (.cell (.fix (.view 7 0)) :: (sk 18 [])), rk 7 ([.val .own (.slice (.str))] :: (rk 14 [])), [], []⟩], fun v => laws_toStringS_l3 K0 v.1 v.2.1 v.2.2.1⟩
theorem laws_toStringS_l3.eq : ∀ rec v, evStep laws_toStringS.E3 (bodyAt 3 f119) laws_toStringS_l3.ent.ins laws_toStringS_l3.ent.rts laws_toStringS_l3.ent.hm laws_toStringS_l3.ent.nl laws_toStringS_l3.ent.xs rec v = laws_toStringS_l3_step (fun c0 c1 c2 => rec (c0, c1, c2, ())) v.1 v.2.1 v.2.2.1 := by intro rec v; kernel_rfl
noncomputable def laws_toStringS.E : Env := ⟨D, [], [], [(3, laws_toStringS_l3.ent)]⟩
noncomputable def laws_toStringS (a0 : List ByteArray) : Option (List ByteArray × Unit) :=
 let l1 : List ByteArray := List.replicate ((a0.length : Int).toNat) (Ty.dflt (.str))
 bif decide (0 ≤ (a0.length : Int)) && decide ((a0.length : Int) ≤ (a0.length : Int)) && roomy (a0.length : Int) 16 then
  (laws_toStringS_l3 K0 a0 0 l1).bind fun o4 =>
  some (o4.1, ())
 else none
noncomputable def laws_toStringS.ent : Entry := ⟨[false], [.cell (.val .bor (.slice (.str)))], [.cell (.val .own (.slice (.str)))], [], fun v => laws_toStringS v.1⟩
theorem laws_toStringS.eq : ∀ v, evFn laws_toStringS.E f119 laws_toStringS.ent.ptrs laws_toStringS.ent.ins laws_toStringS.ent.rets laws_toStringS.ent.outs v = laws_toStringS.ent.f v := by intro v; kernel_rfl
theorem laws_toStringS.fok : ∀ q ∈ ([] : List (Nat × Entry)), EntryOK Pr q.1 q.2 := by intro q hq; simp at hq
theorem laws_toStringS_l3.it : ∀ n v, iter (evStep laws_toStringS.E3 (bodyAt 3 f119) laws_toStringS_l3.ent.ins laws_toStringS_l3.ent.rts laws_toStringS_l3.ent.hm laws_toStringS_l3.ent.nl laws_toStringS_l3.ent.xs) n v = laws_toStringS_l3 n v.1 v.2.1 v.2.2.1 := by
 intro n
 induction n with
 | zero => intro v; rfl
 | succ n ih =>
  intro v
  show (evStep laws_toStringS.E3 (bodyAt 3 f119) laws_toStringS_l3.ent.ins laws_toStringS_l3.ent.rts laws_toStringS_l3.ent.hm laws_toStringS_l3.ent.nl laws_toStringS_l3.ent.xs) (iter (evStep laws_toStringS.E3 (bodyAt 3 f119) laws_toStringS_l3.ent.ins laws_toStringS_l3.ent.rts laws_toStringS_l3.ent.hm laws_toStringS_l3.ent.nl laws_toStringS_l3.ent.xs) n) v = _
  rw [laws_toStringS_l3.eq, show (fun c0 c1 c2 => iter (evStep laws_toStringS.E3 (bodyAt 3 f119) laws_toStringS_l3.ent.ins laws_toStringS_l3.ent.rts laws_toStringS_l3.ent.hm laws_toStringS_l3.ent.nl laws_toStringS_l3.ent.xs) n (c0, c1, c2, ())) = laws_toStringS_l3 n from by funext c0 c1 c2; exact ih _]
  rfl
theorem laws_toStringS_l3.fr : firstRegion (bodyAt 3 f119) = 3 := by kernel_rfl
theorem laws_toStringS_l3.ls : loopsOf (bodyAt 3 f119) = [] := by kernel_rfl
theorem laws_toStringS_l3.lok {E : Env} (hpin : laws_toStringS.E3.pin = E.pin) (hfind : find 3 E.loops = some laws_toStringS_l3.ent) : LoopOK Pr E (bodyAt 3 f119) :=
 loop_of (E1 := laws_toStringS.E3) (EnvOK.of dok laws_toStringS.fok) mixed hpin (by rw [laws_toStringS_l3.fr]; exact hfind) laws_toStringS_l3.ls (by intro l hl; simp at hl) (fun v => (laws_toStringS_l3.it K0 v).symm)
theorem laws_toStringS.ls : loopsOf (bodyOf f119) = [bodyAt 3 f119] := by kernel_rfl
theorem laws_toStringS.ok : EntryOK Pr 119 laws_toStringS.ent :=
 entry_ok (E := laws_toStringS.E) (EnvOK.of dok laws_toStringS.fok) mixed (fn := f119) (by kernel_rfl) (by kernel_rfl) (by decide) laws_toStringS.ls (by intro l hl; simp only [List.mem_singleton] at hl; subst hl; exact laws_toStringS_l3.lok rfl rfl) laws_toStringS.eq
/-! ### loop.example/g00038/laws.toManJob -/
noncomputable def laws_toManJob.E : Env := ⟨D, [], [(119, laws_toStringS.ent)], []⟩
noncomputable def laws_toManJob (a0 : Int) (a1 : ByteArray) (a2 : List ByteArray) (a3 : Int) (a4 : Int) : Option (Int × ByteArray × List ByteArray × Int × Int × Unit) :=
 (laws_toStringS a2).bind fun r1 =>
 some (a0, a1, r1.1, a3, a4, ())
noncomputable def laws_toManJob.ent : Entry := ⟨[false], [.agg [.val .bor (.int .i64), .val .bor (.str), .val .bor (.slice (.str)), .val .bor (.int .i64), .val .bor (.int .i64)]], [.agg [.val .bor (.int .i64), .val .bor (.str), .val .own (.slice (.str)), .val .bor (.int .i64), .val .bor (.int .i64)]], [], fun v => laws_toManJob v.1 v.2.1 v.2.2.1 v.2.2.2.1 v.2.2.2.2.1⟩
theorem laws_toManJob.eq : ∀ v, evFn laws_toManJob.E f90 laws_toManJob.ent.ptrs laws_toManJob.ent.ins laws_toManJob.ent.rets laws_toManJob.ent.outs v = laws_toManJob.ent.f v := by intro v; kernel_rfl
theorem laws_toManJob.fok : ∀ q ∈ [((119 : Nat), laws_toStringS.ent)], EntryOK Pr q.1 q.2 := by
 intro q hq
 simp only [List.mem_cons, List.mem_nil_iff, or_false] at hq
 rcases hq with rfl
 · exact laws_toStringS.ok
theorem laws_toManJob.ls : loopsOf (bodyOf f90) = [] := by kernel_rfl
theorem laws_toManJob.ok : EntryOK Pr 90 laws_toManJob.ent :=
 entry_ok (E := laws_toManJob.E) (EnvOK.of dok laws_toManJob.fok) mixed (fn := f90) (by kernel_rfl) (by kernel_rfl) (by decide) laws_toManJob.ls (by intro l hl; simp at hl) laws_toManJob.eq
/-! ### loop.example/g00038/laws.toManJobS -/
noncomputable def laws_toManJobS.E3 : Env := ⟨D, [], [(90, laws_toManJob.ent)], []⟩
noncomputable def laws_toManJobS_l3_step (rec : List V4 → Int → List V4 → Option ((List V4 × Unit))) (y0 : List V4) (y1 : Int) (y2 : List V4) : Option ((List V4 × Unit)) :=
 let b2 : Bool := decide (y1 < (y0.length : Int))
 bif b2 then
  let e3 : V4 := rd R4 y0 y1
  (laws_toManJob e3.1 e3.2.1 e3.2.2.1 e3.2.2.2.1 e3.2.2.2.2).bind fun r4 =>
  let l6 : List V4 := y2.set y1.toNat (r4.1, r4.2.1, r4.2.2.1, r4.2.2.2.1, r4.2.2.2.2.1)
  bif (decide (0 ≤ y1) && decide (y1 < (y0.length : Int))) && (decide (0 ≤ y1) && decide (y1 < (y2.length : Int))) then
   rec y0 (wrap64 (y1 + 1)) l6
  else none
 else
  some (y2, ())
noncomputable def laws_toManJobS_l3 : Nat → List V4 → Int → List V4 → Option ((List V4 × Unit))
 | 0 => fun _ _ _ => none
 | n + 1 => laws_toManJobS_l3_step (laws_toManJobS_l3 n)
noncomputable def laws_toManJobS_l3.ent : LEntry := ⟨(.cell (.val .bor (.slice R4)) :: (sk 2 (.cell (.fix (.view 7 0)) :: (.cell (.val .bor (.int .i64)) :: (sk 18 []))))), rk 7 ([.val .own (.slice R4)] :: (rk 15 [])), [], [], [⟨some 0, sk 3 (.cell (.fix (.view 7 0)) :: (sk 19 [])), rk 7 ([.val .own (.slice R4)] :: (rk 15 [])), [], []⟩], fun v => laws_toManJobS_l3 K0 v.1 v.2.1 v.2.2.1⟩
theorem laws_toManJobS_l3.eq : ∀ rec v, evStep laws_toManJobS.E3 (bodyAt 3 f59) laws_toManJobS_l3.ent.ins laws_toManJobS_l3.ent.rts laws_toManJobS_l3.ent.hm laws_toManJobS_l3.ent.nl laws_toManJobS_l3.ent.xs rec v = laws_toManJobS_l3_step (fun c0 c1 c2 => rec (c0, c1, c2, ())) v.1 v.2.1 v.2.2.1 := by intro rec v; kernel_rfl
noncomputable def laws_toManJobS.E : Env := ⟨D, [], [(90, laws_toManJob.ent)], [(3, laws_toManJobS_l3.ent)]⟩
noncomputable def laws_toManJobS (a0 : List V4) : Option (List V4 × Unit) :=
 let l1 : List V4 := List.replicate ((a0.length : Int).toNat) (Ty.dflt R4)
 bif decide (0 ≤ (a0.length : Int)) && decide ((a0.length : Int) ≤ (a0.length : Int)) && roomy (a0.length : Int) 64 then
  (laws_toManJobS_l3 K0 a0 0 l1).bind fun o7 =>
  some (o7.1, ())
 else none
noncomputable def laws_toManJobS.ent : Entry := ⟨[false], [.cell (.val .bor (.slice R4))], [.cell (.val .own (.slice R4))], [], fun v => laws_toManJobS v.1⟩
theorem laws_toManJobS.eq : ∀ v, evFn laws_toManJobS.E f59 laws_toManJobS.ent.ptrs laws_toManJobS.ent.ins laws_toManJobS.ent.rets laws_toManJobS.ent.outs v = laws_toManJobS.ent.f v := by intro v; kernel_rfl
theorem laws_toManJobS.fok : ∀ q ∈ [((90 : Nat), laws_toManJob.ent)], EntryOK Pr q.1 q.2 := by
 intro q hq
 simp only [List.mem_cons, List.mem_nil_iff, or_false] at hq
 rcases hq with rfl
 · exact laws_toManJob.ok
theorem laws_toManJobS_l3.it : ∀ n v, iter (evStep laws_toManJobS.E3 (bodyAt 3 f59) laws_toManJobS_l3.ent.ins laws_toManJobS_l3.ent.rts laws_toManJobS_l3.ent.hm laws_toManJobS_l3.ent.nl laws_toManJobS_l3.ent.xs) n v = laws_toManJobS_l3 n v.1 v.2.1 v.2.2.1 := by
 intro n
 induction n with
 | zero => intro v; rfl
 | succ n ih =>
  intro v
  show (evStep laws_toManJobS.E3 (bodyAt 3 f59) laws_toManJobS_l3.ent.ins laws_toManJobS_l3.ent.rts laws_toManJobS_l3.ent.hm laws_toManJobS_l3.ent.nl laws_toManJobS_l3.ent.xs) (iter (evStep laws_toManJobS.E3 (bodyAt 3 f59) laws_toManJobS_l3.ent.ins laws_toManJobS_l3.ent.rts laws_toManJobS_l3.ent.hm laws_toManJobS_l3.ent.nl laws_toManJobS_l3.ent.xs) n) v = _
  rw [laws_toManJobS_l3.eq, show (fun c0 c1 c2 => iter (evStep laws_toManJobS.E3 (bodyAt 3 f59) laws_toManJobS_l3.ent.ins laws_toManJobS_l3.ent.rts laws_toManJobS_l3.ent.hm laws_toManJobS_l3.ent.nl laws_toManJobS_l3.ent.xs) n (c0, c1, c2, ())) = laws_toManJobS_l3 n from by funext c0 c1 c2; exact ih _]
  rfl
theorem laws_toManJobS_l3.fr : firstRegion (bodyAt 3 f59) = 3 := by kernel_rfl
theorem laws_toManJobS_l3.ls : loopsOf (bodyAt 3 f59) = [] := by kernel_rfl
theorem laws_toManJobS_l3.lok {E : Env} (hpin : laws_toManJobS.E3.pin = E.pin) (hfind : find 3 E.loops = some laws_toManJobS_l3.ent) : LoopOK Pr E (bodyAt 3 f59) :=
 loop_of (E1 := laws_toManJobS.E3) (EnvOK.of dok laws_toManJobS.fok) mixed hpin (by rw [laws_toManJobS_l3.fr]; exact hfind) laws_toManJobS_l3.ls (by intro l hl; simp at hl) (fun v => (laws_toManJobS_l3.it K0 v).symm)
theorem laws_toManJobS.ls : loopsOf (bodyOf f59) = [bodyAt 3 f59] := by kernel_rfl
theorem laws_toManJobS.ok : EntryOK Pr 59 laws_toManJobS.ent :=
 entry_ok (E := laws_toManJobS.E) (EnvOK.of dok laws_toManJobS.fok) mixed (fn := f59) (by kernel_rfl) (by kernel_rfl) (by decide) laws_toManJobS.ls (by intro l hl; simp only [List.mem_singleton] at hl; subst hl; exact laws_toManJobS_l3.lok rfl rfl) laws_toManJobS.eq
/-! ### loop.example/g00038/laws.toManager -/
noncomputable def laws_toManager.E : Env := ⟨D, [], [(11, laws_toCluster.ent), (58, laws_toAnswerS.ent), (59, laws_toManJobS.ent)], []⟩
noncomputable def laws_toManager (a0 : List V1) (a1 : List V2) (a2 : List V5) (a3 : Int) (a4 : Int) (a5 : List V3) (a6 : List V4) (a7 : Int) : Option (List V1 × List V2 × List V5 × Int × Int × List V3 × List V4 × Int × Unit) :=
 (laws_toCluster a0 a1 a2 a3 a4).bind fun r1 =>
 (laws_toAnswerS a5).bind fun r2 =>
 (laws_toManJobS a6).bind fun r3 =>
 some (r1.1, r1.2.1, r1.2.2.1, r1.2.2.2.1, r1.2.2.2.2.1, r2.1, r3.1, a7, ())
noncomputable def laws_toManager.ent : Entry := ⟨[false], [.agg [.val .bor (.slice R1), .val .bor (.slice R2), .val .bor (.slice R5), .val .bor (.int .i64), .val .bor (.int .i64), .val .bor (.slice R3), .val .bor (.slice R4), .val .bor (.int .i64)]], [.agg [.val .own (.slice R1), .val .own (.slice R2), .val .own (.slice R5), .val .bor (.int .i64), .val .bor (.int .i64), .val .own (.slice R3), .val .own (.slice R4), .val .bor (.int .i64)]], [], fun v => laws_toManager v.1 v.2.1 v.2.2.1 v.2.2.2.1 v.2.2.2.2.1 v.2.2.2.2.2.1 v.2.2.2.2.2.2.1 v.2.2.2.2.2.2.2.1⟩
theorem laws_toManager.eq : ∀ v, evFn laws_toManager.E f22 laws_toManager.ent.ptrs laws_toManager.ent.ins laws_toManager.ent.rets laws_toManager.ent.outs v = laws_toManager.ent.f v := by intro v; kernel_rfl
theorem laws_toManager.fok : ∀ q ∈ [((11 : Nat), laws_toCluster.ent), ((58 : Nat), laws_toAnswerS.ent), ((59 : Nat), laws_toManJobS.ent)], EntryOK Pr q.1 q.2 := by
 intro q hq
 simp only [List.mem_cons, List.mem_nil_iff, or_false] at hq
 rcases hq with rfl | rfl | rfl
 · exact laws_toCluster.ok
 · exact laws_toAnswerS.ok
 · exact laws_toManJobS.ok
theorem laws_toManager.ls : loopsOf (bodyOf f22) = [] := by kernel_rfl
theorem laws_toManager.ok : EntryOK Pr 22 laws_toManager.ent :=
 entry_ok (E := laws_toManager.E) (EnvOK.of dok laws_toManager.fok) mixed (fn := f22) (by kernel_rfl) (by kernel_rfl) (by decide) laws_toManager.ls (by intro l hl; simp at hl) laws_toManager.eq
/-! ### loop.example/g00038/spec.l13Name -/
noncomputable def spec_l13Name.E4 : Env := ⟨D, [], [], []⟩
noncomputable def spec_l13Name_l4_step (rec : ByteArray → Int → Option ((Bool × Unit) ⊕ (Unit))) (y0 : ByteArray) (y1 : Int) : Option ((Bool × Unit) ⊕ (Unit)) :=
 let b3 : Bool := decide (y1 < (y0.size : Int))
 bif b3 then
  bif decide (0 ≤ y1) && decide (y1 < (y0.size : Int)) then
   let b4 : Bool := (decide (bt y0 y1 ≥ 97) && decide (bt y0 y1 ≤ 122))
   let b5 : Bool := (decide (bt y0 y1 ≥ 48) && decide (bt y0 y1 ≤ 57))
   let b6 : Bool := ((b4 || b5) || (bt y0 y1 == 45))
   bif !b6 then
    some (Sum.inl (false, ()))
   else
    rec y0 (wrap64 (y1 + 1))
  else none
 else
  some (Sum.inr ())
noncomputable def spec_l13Name_l4 : Nat → ByteArray → Int → Option ((Bool × Unit) ⊕ (Unit))
 | 0 => fun _ _ => none
 | n + 1 => spec_l13Name_l4_step (spec_l13Name_l4 n)
noncomputable def spec_l13Name_l4.ent : LEntry := ⟨(.cell (.val .bor (.str)) :: (sk 2 (.cell (.val .bor (.int .i64)) :: (sk 37 [])))), rk 41 [], [], [], [⟨none, sk 2 (.cell (.val .bor (.bool)) :: (sk 38 [])), rk 41 [], [], []⟩, ⟨some 0, sk 41 [], rk 41 [], [], []⟩], fun v => spec_l13Name_l4 K0 v.1 v.2.1⟩
theorem spec_l13Name_l4.eq : ∀ rec v, evStep spec_l13Name.E4 (bodyAt 4 f74) spec_l13Name_l4.ent.ins spec_l13Name_l4.ent.rts spec_l13Name_l4.ent.hm spec_l13Name_l4.ent.nl spec_l13Name_l4.ent.xs rec v = spec_l13Name_l4_step (fun c0 c1 => rec (c0, c1, ())) v.1 v.2.1 := by intro rec v; kernel_rfl
noncomputable def spec_l13Name.E : Env := ⟨D, [], [], [(4, spec_l13Name_l4.ent)]⟩
noncomputable def spec_l13Name (a0 : ByteArray) : Option (Bool × Unit) :=
 let b1 : Bool := decide ((a0.size : Int) < 1)
 let b2 : Bool := decide ((a0.size : Int) > 20)
 bif (b1 || b2) then
  some (false, ())
 else
  (spec_l13Name_l4 K0 a0 0).bind fun o7 =>
  match o7 with
  | Sum.inl p8 =>
   some (p8.1, ())
  | Sum.inr p9 =>
   some (true, ())
noncomputable def spec_l13Name.ent : Entry := ⟨[false], [.cell (.val .bor (.str))], [.cell (.val .bor (.bool))], [], fun v => spec_l13Name v.1⟩
theorem spec_l13Name.eq : ∀ v, evFn spec_l13Name.E f74 spec_l13Name.ent.ptrs spec_l13Name.ent.ins spec_l13Name.ent.rets spec_l13Name.ent.outs v = spec_l13Name.ent.f v := by intro v; kernel_rfl
theorem spec_l13Name.fok : ∀ q ∈ ([] : List (Nat × Entry)), EntryOK Pr q.1 q.2 := by intro q hq; simp at hq
theorem spec_l13Name_l4.it : ∀ n v, iter (evStep spec_l13Name.E4 (bodyAt 4 f74) spec_l13Name_l4.ent.ins spec_l13Name_l4.ent.rts spec_l13Name_l4.ent.hm spec_l13Name_l4.ent.nl spec_l13Name_l4.ent.xs) n v = spec_l13Name_l4 n v.1 v.2.1 := by
 intro n
 induction n with
 | zero => intro v; rfl
 | succ n ih =>
  intro v
  show (evStep spec_l13Name.E4 (bodyAt 4 f74) spec_l13Name_l4.ent.ins spec_l13Name_l4.ent.rts spec_l13Name_l4.ent.hm spec_l13Name_l4.ent.nl spec_l13Name_l4.ent.xs) (iter (evStep spec_l13Name.E4 (bodyAt 4 f74) spec_l13Name_l4.ent.ins spec_l13Name_l4.ent.rts spec_l13Name_l4.ent.hm spec_l13Name_l4.ent.nl spec_l13Name_l4.ent.xs) n) v = _
  rw [spec_l13Name_l4.eq, show (fun c0 c1 => iter (evStep spec_l13Name.E4 (bodyAt 4 f74) spec_l13Name_l4.ent.ins spec_l13Name_l4.ent.rts spec_l13Name_l4.ent.hm spec_l13Name_l4.ent.nl spec_l13Name_l4.ent.xs) n (c0, c1, ())) = spec_l13Name_l4 n from by funext c0 c1; exact ih _]
  rfl
theorem spec_l13Name_l4.fr : firstRegion (bodyAt 4 f74) = 4 := by kernel_rfl
theorem spec_l13Name_l4.ls : loopsOf (bodyAt 4 f74) = [] := by kernel_rfl
theorem spec_l13Name_l4.lok {E : Env} (hpin : spec_l13Name.E4.pin = E.pin) (hfind : find 4 E.loops = some spec_l13Name_l4.ent) : LoopOK Pr E (bodyAt 4 f74) :=
 loop_of (E1 := spec_l13Name.E4) (EnvOK.of dok spec_l13Name.fok) mixed hpin (by rw [spec_l13Name_l4.fr]; exact hfind) spec_l13Name_l4.ls (by intro l hl; simp at hl) (fun v => (spec_l13Name_l4.it K0 v).symm)
theorem spec_l13Name.ls : loopsOf (bodyOf f74) = [bodyAt 4 f74] := by kernel_rfl
theorem spec_l13Name.ok : EntryOK Pr 74 spec_l13Name.ent :=
 entry_ok (E := spec_l13Name.E) (EnvOK.of dok spec_l13Name.fok) mixed (fn := f74) (by kernel_rfl) (by kernel_rfl) (by decide) spec_l13Name.ls (by intro l hl; simp only [List.mem_singleton] at hl; subst hl; exact spec_l13Name_l4.lok rfl rfl) spec_l13Name.eq
/-! ### loop.example/g00038/spec.l22Nodes -/
noncomputable def spec_l22Nodes.E4 : Env := ⟨D, [], [(74, spec_l13Name.ent)], []⟩
noncomputable def spec_l22Nodes_l4_step (rec : Int → List V1 → List V2 → List V5 → Int → Int → Option ((Bool × Unit) ⊕ (Unit))) (y0 : Int) (y1 : List V1) (y2 : List V2) (y3 : List V5) (y4 : Int) (y5 : Int) : Option ((Bool × Unit) ⊕ (Unit)) :=
 let b2 : Bool := decide (y0 < (y1.length : Int))
 bif b2 then
  let e3 : V1 := rd R1 y1 y0
  bif decide (0 ≤ y0) && decide (y0 < (y1.length : Int)) then
   let r4 : Bool × Unit := (spec_l13Name e3.1).getD (false, ())
   let e5 : V1 := rd R1 y1 (wrap64 (y0 - 1))
   let b6 : Bool := (decide (y0 > 0) && !slt e5.1 e3.1)
   let b7 : Bool := ((!r4.1 || b6) || decide (e3.2.1 < 1))
   let b8 : Bool := (b7 || decide (e3.2.1 > 64))
   let b9 : Bool := (b8 || decide (e3.2.2.1 < 1))
   let b10 : Bool := (b9 || decide (e3.2.2.1 > 1000))
   let b11 : Bool := (b10 || decide (e3.2.2.2.1 < 1))
   let b12 : Bool := (b11 || decide (e3.2.2.2.1 > 20))
   let b13 : Bool := decide (e3.2.2.2.2.1 < 0)
   let b14 : Bool := decide (e3.2.2.2.2.1 > y5)
   bif ((spec_l13Name e3.1).isSome) && (!(!(!r4.1) && decide (y0 > 0)) || (decide (0 ≤ (wrap64 (y0 - 1))) && decide ((wrap64 (y0 - 1)) < (y1.length : Int)))) then
    bif ((b12 || b13) || b14) then
     some (Sum.inl (false, ()))
    else
     rec (wrap64 (y0 + 1)) y1 y2 y3 y4 y5
   else none
  else none
 else
  some (Sum.inr ())
noncomputable def spec_l22Nodes_l4 : Nat → Int → List V1 → List V2 → List V5 → Int → Int → Option ((Bool × Unit) ⊕ (Unit))
 | 0 => fun _ _ _ _ _ _ => none
 | n + 1 => spec_l22Nodes_l4_step (spec_l22Nodes_l4 n)
noncomputable def spec_l22Nodes_l4.ent : LEntry := ⟨sk 1 (.cell (.fix (.ptr 1 0)) :: (sk 1 (.cell (.val .bor (.int .i64)) :: (sk 79 [])))), rk 1 ([.val .bor (.slice R1), .val .bor (.slice R2), .val .bor (.slice R5), .val .bor (.int .i64), .val .bor (.int .i64)] :: (rk 81 [])), [], [], [⟨none, sk 2 (.cell (.val .bor (.bool)) :: (sk 80 [])), rk 83 [], [], []⟩, ⟨some 0, sk 83 [], rk 83 [], [], []⟩], fun v => spec_l22Nodes_l4 K0 v.1 v.2.1 v.2.2.1 v.2.2.2.1 v.2.2.2.2.1 v.2.2.2.2.2.1⟩
theorem spec_l22Nodes_l4.eq : ∀ rec v, evStep spec_l22Nodes.E4 (bodyAt 4 f33) spec_l22Nodes_l4.ent.ins spec_l22Nodes_l4.ent.rts spec_l22Nodes_l4.ent.hm spec_l22Nodes_l4.ent.nl spec_l22Nodes_l4.ent.xs rec v = spec_l22Nodes_l4_step (fun c0 c1 c2 c3 c4 c5 => rec (c0, c1, c2, c3, c4, c5, ())) v.1 v.2.1 v.2.2.1 v.2.2.2.1 v.2.2.2.2.1 v.2.2.2.2.2.1 := by intro rec v; kernel_rfl
noncomputable def spec_l22Nodes.E : Env := ⟨D, [], [(74, spec_l13Name.ent)], [(4, spec_l22Nodes_l4.ent)]⟩
noncomputable def spec_l22Nodes (a0 : List V1) (a1 : List V2) (a2 : List V5) (a3 : Int) (a4 : Int) : Option (Bool × Unit) :=
 let b1 : Bool := decide ((a0.length : Int) > 12)
 bif b1 then
  some (false, ())
 else
  (spec_l22Nodes_l4 K0 0 a0 a1 a2 a3 a4).bind fun o15 =>
  match o15 with
  | Sum.inl p16 =>
   some (p16.1, ())
  | Sum.inr p17 =>
   some (true, ())
noncomputable def spec_l22Nodes.ent : Entry := ⟨[false], [.agg [.val .bor (.slice R1), .val .bor (.slice R2), .val .bor (.slice R5), .val .bor (.int .i64), .val .bor (.int .i64)]], [.cell (.val .bor (.bool))], [], fun v => spec_l22Nodes v.1 v.2.1 v.2.2.1 v.2.2.2.1 v.2.2.2.2.1⟩
theorem spec_l22Nodes.eq : ∀ v, evFn spec_l22Nodes.E f33 spec_l22Nodes.ent.ptrs spec_l22Nodes.ent.ins spec_l22Nodes.ent.rets spec_l22Nodes.ent.outs v = spec_l22Nodes.ent.f v := by intro v; kernel_rfl
theorem spec_l22Nodes.fok : ∀ q ∈ [((74 : Nat), spec_l13Name.ent)], EntryOK Pr q.1 q.2 := by
 intro q hq
 simp only [List.mem_cons, List.mem_nil_iff, or_false] at hq
 rcases hq with rfl
 · exact spec_l13Name.ok
theorem spec_l22Nodes_l4.it : ∀ n v, iter (evStep spec_l22Nodes.E4 (bodyAt 4 f33) spec_l22Nodes_l4.ent.ins spec_l22Nodes_l4.ent.rts spec_l22Nodes_l4.ent.hm spec_l22Nodes_l4.ent.nl spec_l22Nodes_l4.ent.xs) n v = spec_l22Nodes_l4 n v.1 v.2.1 v.2.2.1 v.2.2.2.1 v.2.2.2.2.1 v.2.2.2.2.2.1 := by
 intro n
 induction n with
 | zero => intro v; rfl
 | succ n ih =>
  intro v
  show (evStep spec_l22Nodes.E4 (bodyAt 4 f33) spec_l22Nodes_l4.ent.ins spec_l22Nodes_l4.ent.rts spec_l22Nodes_l4.ent.hm spec_l22Nodes_l4.ent.nl spec_l22Nodes_l4.ent.xs) (iter (evStep spec_l22Nodes.E4 (bodyAt 4 f33) spec_l22Nodes_l4.ent.ins spec_l22Nodes_l4.ent.rts spec_l22Nodes_l4.ent.hm spec_l22Nodes_l4.ent.nl spec_l22Nodes_l4.ent.xs) n) v = _
  rw [spec_l22Nodes_l4.eq, show (fun c0 c1 c2 c3 c4 c5 => iter (evStep spec_l22Nodes.E4 (bodyAt 4 f33) spec_l22Nodes_l4.ent.ins spec_l22Nodes_l4.ent.rts spec_l22Nodes_l4.ent.hm spec_l22Nodes_l4.ent.nl spec_l22Nodes_l4.ent.xs) n (c0, c1, c2, c3, c4, c5, ())) = spec_l22Nodes_l4 n from by funext c0 c1 c2 c3 c4 c5; exact ih _]
  rfl
theorem spec_l22Nodes_l4.fr : firstRegion (bodyAt 4 f33) = 4 := by kernel_rfl
theorem spec_l22Nodes_l4.ls : loopsOf (bodyAt 4 f33) = [] := by kernel_rfl
theorem spec_l22Nodes_l4.lok {E : Env} (hpin : spec_l22Nodes.E4.pin = E.pin) (hfind : find 4 E.loops = some spec_l22Nodes_l4.ent) : LoopOK Pr E (bodyAt 4 f33) :=
 loop_of (E1 := spec_l22Nodes.E4) (EnvOK.of dok spec_l22Nodes.fok) mixed hpin (by rw [spec_l22Nodes_l4.fr]; exact hfind) spec_l22Nodes_l4.ls (by intro l hl; simp at hl) (fun v => (spec_l22Nodes_l4.it K0 v).symm)
theorem spec_l22Nodes.ls : loopsOf (bodyOf f33) = [bodyAt 4 f33] := by kernel_rfl
theorem spec_l22Nodes.ok : EntryOK Pr 33 spec_l22Nodes.ent :=
 entry_ok (E := spec_l22Nodes.E) (EnvOK.of dok spec_l22Nodes.fok) mixed (fn := f33) (by kernel_rfl) (by kernel_rfl) (by decide) spec_l22Nodes.ls (by intro l hl; simp only [List.mem_singleton] at hl; subst hl; exact spec_l22Nodes_l4.lok rfl rfl) spec_l22Nodes.eq
/-! ### loop.example/g00038/spec.l22IsVm -/
noncomputable def spec_l22IsVm.E : Env := ⟨D, [], [(74, spec_l13Name.ent)], []⟩
noncomputable def spec_l22IsVm (a0 : ByteArray) (a1 : Int) (a2 : Int) (a3 : Int) (a4 : Int) (a5 : Int) (a6 : ByteArray) (a7 : Int) (a8 : Int) : Option (Bool × Unit) :=
 (spec_l13Name a0).bind fun r1 =>
 let b2 : Bool := (r1.1 && decide (a1 ≥ 0))
 let b3 : Bool := ((b2 && decide (a1 < a8)) && decide (a2 ≥ 1))
 let b4 : Bool := ((b3 && decide (a2 ≤ 64)) && decide (a3 ≥ 1))
 let b5 : Bool := (b4 && decide (a3 ≤ 1000))
 let b6 : Bool := ((b5 && decide (a4 ≥ 0)) && decide (a4 ≤ 20))
 let b7 : Bool := ((b6 && decide (a5 ≥ 0)) && decide (a5 ≤ 20))
 some (b7, ())
noncomputable def spec_l22IsVm.ent : Entry := ⟨[false, false], [.agg [.val .bor (.str), .val .bor (.int .i64), .val .bor (.int .i64), .val .bor (.int .i64), .val .bor (.int .i64), .val .bor (.int .i64), .val .bor (.str), .val .bor (.int .i64)], .cell (.val .bor (.int .i64))], [.cell (.val .bor (.bool))], [], fun v => spec_l22IsVm v.1 v.2.1 v.2.2.1 v.2.2.2.1 v.2.2.2.2.1 v.2.2.2.2.2.1 v.2.2.2.2.2.2.1 v.2.2.2.2.2.2.2.1 v.2.2.2.2.2.2.2.2.1⟩
theorem spec_l22IsVm.eq : ∀ v, evFn spec_l22IsVm.E f34 spec_l22IsVm.ent.ptrs spec_l22IsVm.ent.ins spec_l22IsVm.ent.rets spec_l22IsVm.ent.outs v = spec_l22IsVm.ent.f v := by intro v; kernel_rfl
theorem spec_l22IsVm.fok : ∀ q ∈ [((74 : Nat), spec_l13Name.ent)], EntryOK Pr q.1 q.2 := by
 intro q hq
 simp only [List.mem_cons, List.mem_nil_iff, or_false] at hq
 rcases hq with rfl
 · exact spec_l13Name.ok
theorem spec_l22IsVm.ls : loopsOf (bodyOf f34) = [] := by kernel_rfl
theorem spec_l22IsVm.ok : EntryOK Pr 34 spec_l22IsVm.ent :=
 entry_ok (E := spec_l22IsVm.E) (EnvOK.of dok spec_l22IsVm.fok) mixed (fn := f34) (by kernel_rfl) (by kernel_rfl) (by decide) spec_l22IsVm.ls (by intro l hl; simp at hl) spec_l22IsVm.eq
/-! ### loop.example/g00038/spec.l22Node -/
noncomputable def spec_l22Node.E2 : Env := ⟨D, [], [], []⟩
noncomputable def spec_l22Node_l2_step (rec : ByteArray → Int → List V1 → List V2 → List V5 → Int → Int → Option ((Int × Unit) ⊕ (Unit))) (y0 : ByteArray) (y1 : Int) (y2 : List V1) (y3 : List V2) (y4 : List V5) (y5 : Int) (y6 : Int) : Option ((Int × Unit) ⊕ (Unit)) :=
 let b1 : Bool := decide (y1 < (y2.length : Int))
 bif b1 then
  let e2 : V1 := rd R1 y2 y1
  bif decide (0 ≤ y1) && decide (y1 < (y2.length : Int)) then
   bif seq e2.1 y0 then
    some (Sum.inl (y1, ()))
   else
    rec y0 (wrap64 (y1 + 1)) y2 y3 y4 y5 y6
  else none
 else
  some (Sum.inr ())
noncomputable def spec_l22Node_l2 : Nat → ByteArray → Int → List V1 → List V2 → List V5 → Int → Int → Option ((Int × Unit) ⊕ (Unit))
 | 0 => fun _ _ _ _ _ _ _ => none
 | n + 1 => spec_l22Node_l2_step (spec_l22Node_l2 n)
noncomputable def spec_l22Node_l2.ent : LEntry := ⟨sk 1 (.cell (.val .bor (.str)) :: (.cell (.fix (.ptr 2 0)) :: (sk 2 (.cell (.val .bor (.int .i64)) :: (sk 16 []))))), rk 2 ([.val .bor (.slice R1), .val .bor (.slice R2), .val .bor (.slice R5), .val .bor (.int .i64), .val .bor (.int .i64)] :: (rk 19 [])), [], [], [⟨none, sk 4 (.cell (.val .bor (.int .i64)) :: (sk 17 [])), rk 22 [], [], []⟩, ⟨some 0, sk 22 [], rk 22 [], [], []⟩], fun v => spec_l22Node_l2 K0 v.1 v.2.1 v.2.2.1 v.2.2.2.1 v.2.2.2.2.1 v.2.2.2.2.2.1 v.2.2.2.2.2.2.1⟩
theorem spec_l22Node_l2.eq : ∀ rec v, evStep spec_l22Node.E2 (bodyAt 2 f35) spec_l22Node_l2.ent.ins spec_l22Node_l2.ent.rts spec_l22Node_l2.ent.hm spec_l22Node_l2.ent.nl spec_l22Node_l2.ent.xs rec v = spec_l22Node_l2_step (fun c0 c1 c2 c3 c4 c5 c6 => rec (c0, c1, c2, c3, c4, c5, c6, ())) v.1 v.2.1 v.2.2.1 v.2.2.2.1 v.2.2.2.2.1 v.2.2.2.2.2.1 v.2.2.2.2.2.2.1 := by intro rec v; kernel_rfl
noncomputable def spec_l22Node.E : Env := ⟨D, [], [], [(2, spec_l22Node_l2.ent)]⟩
noncomputable def spec_l22Node (a0 : List V1) (a1 : List V2) (a2 : List V5) (a3 : Int) (a4 : Int) (a5 : ByteArray) : Option (Int × Unit) :=
 (spec_l22Node_l2 K0 a5 0 a0 a1 a2 a3 a4).bind fun o3 =>
 match o3 with
 | Sum.inl p4 =>
  some (p4.1, ())
 | Sum.inr p5 =>
  some (-1, ())
noncomputable def spec_l22Node.ent : Entry := ⟨[false, false], [.agg [.val .bor (.slice R1), .val .bor (.slice R2), .val .bor (.slice R5), .val .bor (.int .i64), .val .bor (.int .i64)], .cell (.val .bor (.str))], [.cell (.val .bor (.int .i64))], [], fun v => spec_l22Node v.1 v.2.1 v.2.2.1 v.2.2.2.1 v.2.2.2.2.1 v.2.2.2.2.2.1⟩
theorem spec_l22Node.eq : ∀ v, evFn spec_l22Node.E f35 spec_l22Node.ent.ptrs spec_l22Node.ent.ins spec_l22Node.ent.rets spec_l22Node.ent.outs v = spec_l22Node.ent.f v := by intro v; kernel_rfl
theorem spec_l22Node.fok : ∀ q ∈ ([] : List (Nat × Entry)), EntryOK Pr q.1 q.2 := by intro q hq; simp at hq
theorem spec_l22Node_l2.it : ∀ n v, iter (evStep spec_l22Node.E2 (bodyAt 2 f35) spec_l22Node_l2.ent.ins spec_l22Node_l2.ent.rts spec_l22Node_l2.ent.hm spec_l22Node_l2.ent.nl spec_l22Node_l2.ent.xs) n v = spec_l22Node_l2 n v.1 v.2.1 v.2.2.1 v.2.2.2.1 v.2.2.2.2.1 v.2.2.2.2.2.1 v.2.2.2.2.2.2.1 := by
 intro n
 induction n with
 | zero => intro v; rfl
 | succ n ih =>
  intro v
  show (evStep spec_l22Node.E2 (bodyAt 2 f35) spec_l22Node_l2.ent.ins spec_l22Node_l2.ent.rts spec_l22Node_l2.ent.hm spec_l22Node_l2.ent.nl spec_l22Node_l2.ent.xs) (iter (evStep spec_l22Node.E2 (bodyAt 2 f35) spec_l22Node_l2.ent.ins spec_l22Node_l2.ent.rts spec_l22Node_l2.ent.hm spec_l22Node_l2.ent.nl spec_l22Node_l2.ent.xs) n) v = _
  rw [spec_l22Node_l2.eq, show (fun c0 c1 c2 c3 c4 c5 c6 => iter (evStep spec_l22Node.E2 (bodyAt 2 f35) spec_l22Node_l2.ent.ins spec_l22Node_l2.ent.rts spec_l22Node_l2.ent.hm spec_l22Node_l2.ent.nl spec_l22Node_l2.ent.xs) n (c0, c1, c2, c3, c4, c5, c6, ())) = spec_l22Node_l2 n from by funext c0 c1 c2 c3 c4 c5 c6; exact ih _]
  rfl
theorem spec_l22Node_l2.fr : firstRegion (bodyAt 2 f35) = 2 := by kernel_rfl
theorem spec_l22Node_l2.ls : loopsOf (bodyAt 2 f35) = [] := by kernel_rfl
theorem spec_l22Node_l2.lok {E : Env} (hpin : spec_l22Node.E2.pin = E.pin) (hfind : find 2 E.loops = some spec_l22Node_l2.ent) : LoopOK Pr E (bodyAt 2 f35) :=
 loop_of (E1 := spec_l22Node.E2) (EnvOK.of dok spec_l22Node.fok) mixed hpin (by rw [spec_l22Node_l2.fr]; exact hfind) spec_l22Node_l2.ls (by intro l hl; simp at hl) (fun v => (spec_l22Node_l2.it K0 v).symm)
theorem spec_l22Node.ls : loopsOf (bodyOf f35) = [bodyAt 2 f35] := by kernel_rfl
theorem spec_l22Node.ok : EntryOK Pr 35 spec_l22Node.ent :=
 entry_ok (E := spec_l22Node.E) (EnvOK.of dok spec_l22Node.fok) mixed (fn := f35) (by kernel_rfl) (by kernel_rfl) (by decide) spec_l22Node.ls (by intro l hl; simp only [List.mem_singleton] at hl; subst hl; exact spec_l22Node_l2.lok rfl rfl) spec_l22Node.eq
/-! ### loop.example/g00038/spec.l22Hold -/
noncomputable def spec_l22Hold.E7 : Env := ⟨D, [], [], []⟩
noncomputable def spec_l22Hold_l7_step (rec : Int → Int → Int → List V1 → List V2 → List V5 → Int → Int → ByteArray → Int → Int → Int → Int → Int → ByteArray → Int → ByteArray → Int → Int → Int → Int → Bool → Bool → Option ((Int × Unit) ⊕ (Int × Int × List V1 × List V2 × List V5 × Int × Int × ByteArray × Int × Int × Int × Int × Bool × Bool × Unit))) (y0 : Int) (y1 : Int) (y2 : Int) (y3 : List V1) (y4 : List V2) (y5 : List V5) (y6 : Int) (y7 : Int) (y8 : ByteArray) (y9 : Int) (y10 : Int) (y11 : Int) (y12 : Int) (y13 : Int) (y14 : ByteArray) (y15 : Int) (y16 : ByteArray) (y17 : Int) (y18 : Int) (y19 : Int) (y20 : Int) (y21 : Bool) (y22 : Bool) : Option ((Int × Unit) ⊕ (Int × Int × List V1 × List V2 × List V5 × Int × Int × ByteArray × Int × Int × Int × Int × Bool × Bool × Unit)) :=
 let b3 : Bool := decide (y2 < (y4.length : Int))
 bif b3 then
  let e4 : V2 := rd R2 y4 y2
  bif decide (0 ≤ y2) && decide (y2 < (y4.length : Int)) then
   let b5 : Bool := !seq e4.2.2.2.2.2.2.1 y16
   bif (b5 || seq e4.1 y8) then
    rec y0 y1 (wrap64 (y2 + 1)) y3 y4 y5 y6 y7 y8 y9 y10 y11 y12 y13 y14 y15 y16 y17 y18 y19 y20 y21 y22
   else
    let b6 : Bool := ((y13 != 0) && (e4.2.1 == y9))
    let b7 : Bool := (b6 && (e4.2.2.2.2.2.1 == y13))
    bif b7 then
     some (Sum.inl (9, ()))
    else
     let x8 : Int := (wrap64 (y1 + e4.2.2.2.1))
     rec (wrap64 (y0 + e4.2.2.1)) x8 (wrap64 (y2 + 1)) y3 y4 y5 y6 y7 y8 y9 y10 y11 y12 y13 y14 y15 y16 y17 y18 y19 y20 y21 y22
  else none
 else
  some (Sum.inr (y0, y1, y3, y4, y5, y6, y7, y16, y17, y18, y19, y20, y21, y22, ()))
noncomputable def spec_l22Hold_l7 : Nat → Int → Int → Int → List V1 → List V2 → List V5 → Int → Int → ByteArray → Int → Int → Int → Int → Int → ByteArray → Int → ByteArray → Int → Int → Int → Int → Bool → Bool → Option ((Int × Unit) ⊕ (Int × Int × List V1 × List V2 × List V5 × Int × Int × ByteArray × Int × Int × Int × Int × Bool × Bool × Unit))
 | 0 => fun _ _ _ _ _ _ _ _ _ _ _ _ _ _ _ _ _ _ _ _ _ _ _ => none
 | n + 1 => spec_l22Hold_l7_step (spec_l22Hold_l7 n)
noncomputable def spec_l22Hold_l7.ent : LEntry := ⟨sk 3 (.cell (.fix (.ptr 3 0)) :: (sk 1 (.cell (.fix (.ptr 5 0)) :: (sk 1 (.cell (.fix (.ptr 7 0)) :: (.cell (.val .bor (.int .i64)) :: (.cell (.val .bor (.int .i64)) :: (.cell (.val .bor (.int .i64)) :: (sk 81 []))))))))), rk 3 ([.val .bor (.slice R1), .val .bor (.slice R2), .val .bor (.slice R5), .val .bor (.int .i64), .val .bor (.int .i64)] :: (rk 1 ([.val .bor (.str), .val .bor (.int .i64), .val .bor (.int .i64), .val .bor (.int .i64), .val .bor (.int .i64), .val .bor (.int .i64), .val .bor (.str), .val .bor (.int .i64)] :: (rk 1 ([.val .bor (.str), .val .bor (.int .i64), .val .bor (.int .i64), .val .bor (.int .i64), .val .bor (.int .i64), .val .bor (.bool), .val .bor (.bool)] :: (rk 84 [])))))), [], [], [⟨none, sk 6 (.cell (.val .bor (.int .i64)) :: (sk 85 [])), rk 92 [], [], []⟩, ⟨some 0, sk 3 (.cell (.fix (.ptr 3 0)) :: (sk 3 (.cell (.fix (.ptr 7 0)) :: (.cell (.val .bor (.int .i64)) :: (.cell (.val .bor (.int .i64)) :: (sk 82 [])))))), rk 3 ([.val .bor (.slice R1), .val .bor (.slice R2), .val .bor (.slice R5), .val .bor (.int .i64), .val .bor (.int .i64)] :: (rk 3 ([.val .bor (.str), .val .bor (.int .i64), .val .bor (.int .i64), .val .bor (.int .i64), .val .bor (.int .i64), .val .bor (.bool), .val .bor (.bool)] :: (rk 84 [])))), [], []⟩], fun v => spec_l22Hold_l7 K0 v.1 v.2.1 v.2.2.1 v.2.2.2.1 v.2.2.2.2.1 v.2.2.2.2.2.1 v.2.2.2.2.2.2.1 v.2.2.2.2.2.2.2.1 v.2.2.2.2.2.2.2.2.1 v.2.2.2.2.2.2.2.2.2.1 v.2.2.2.2.2.2.2.2.2.2.1 v.2.2.2.2.2.2.2.2.2.2.2.1 v.2.2.2.2.2.2.2.2.2.2.2.2.1 v.2.2.2.2.2.2.2.2.2.2.2.2.2.1 v.2.2.2.2.2.2.2.2.2.2.2.2.2.2.1 v.2.2.2.2.2.2.2.2.2.2.2.2.2.2.2.1 v.2.2.2.2.2.2.2.2.2.2.2.2.2.2.2.2.1 v.2.2.2.2.2.2.2.2.2.2.2.2.2.2.2.2.2.1 v.2.2.2.2.2.2.2.2.2.2.2.2.2.2.2.2.2.2.1 v.2.2.2.2.2.2.2.2.2.2.2.2.2.2.2.2.2.2.2.1 v.2.2.2.2.2.2.2.2.2.2.2.2.2.2.2.2.2.2.2.2.1 v.2.2.2.2.2.2.2.2.2.2.2.2.2.2.2.2.2.2.2.2.2.1 v.2.2.2.2.2.2.2.2.2.2.2.2.2.2.2.2.2.2.2.2.2.2.1⟩
theorem spec_l22Hold_l7.eq : ∀ rec v, evStep spec_l22Hold.E7 (bodyAt 7 f36) spec_l22Hold_l7.ent.ins spec_l22Hold_l7.ent.rts spec_l22Hold_l7.ent.hm spec_l22Hold_l7.ent.nl spec_l22Hold_l7.ent.xs rec v = spec_l22Hold_l7_step (fun c0 c1 c2 c3 c4 c5 c6 c7 c8 c9 c10 c11 c12 c13 c14 c15 c16 c17 c18 c19 c20 c21 c22 => rec (c0, c1, c2, c3, c4, c5, c6, c7, c8, c9, c10, c11, c12, c13, c14, c15, c16, c17, c18, c19, c20, c21, c22, ())) v.1 v.2.1 v.2.2.1 v.2.2.2.1 v.2.2.2.2.1 v.2.2.2.2.2.1 v.2.2.2.2.2.2.1 v.2.2.2.2.2.2.2.1 v.2.2.2.2.2.2.2.2.1 v.2.2.2.2.2.2.2.2.2.1 v.2.2.2.2.2.2.2.2.2.2.1 v.2.2.2.2.2.2.2.2.2.2.2.1 v.2.2.2.2.2.2.2.2.2.2.2.2.1 v.2.2.2.2.2.2.2.2.2.2.2.2.2.1 v.2.2.2.2.2.2.2.2.2.2.2.2.2.2.1 v.2.2.2.2.2.2.2.2.2.2.2.2.2.2.2.1 v.2.2.2.2.2.2.2.2.2.2.2.2.2.2.2.2.1 v.2.2.2.2.2.2.2.2.2.2.2.2.2.2.2.2.2.1 v.2.2.2.2.2.2.2.2.2.2.2.2.2.2.2.2.2.2.1 v.2.2.2.2.2.2.2.2.2.2.2.2.2.2.2.2.2.2.2.1 v.2.2.2.2.2.2.2.2.2.2.2.2.2.2.2.2.2.2.2.2.1 v.2.2.2.2.2.2.2.2.2.2.2.2.2.2.2.2.2.2.2.2.2.1 v.2.2.2.2.2.2.2.2.2.2.2.2.2.2.2.2.2.2.2.2.2.2.1 := by intro rec v; kernel_rfl
noncomputable def spec_l22Hold.E : Env := ⟨D, [], [], [(7, spec_l22Hold_l7.ent)]⟩
noncomputable def spec_l22Hold (a0 : List V1) (a1 : List V2) (a2 : List V5) (a3 : Int) (a4 : Int) (a5 : Int) (a6 : ByteArray) (a7 : Int) (a8 : Int) (a9 : Int) (a10 : Int) (a11 : Int) (a12 : ByteArray) (a13 : Int) : Option (Int × Unit) :=
 let e1 : V1 := rd R1 a0 a5
 bif decide (0 ≤ a5) && decide (a5 < (a0.length : Int)) then
  let b2 : Bool := ((a10 != 0) && (a10 != e1.2.2.2.1))
  bif b2 then
   some (7, ())
  else
   (spec_l22Hold_l7 K0 a8 a9 0 a0 a1 a2 a3 a4 a6 a7 a8 a9 a10 a11 a12 a13 e1.1 e1.2.1 e1.2.2.1 e1.2.2.2.1 e1.2.2.2.2.1 e1.2.2.2.2.2.1 e1.2.2.2.2.2.2).bind fun o9 =>
   match o9 with
   | Sum.inl p10 =>
    some (p10.1, ())
   | Sum.inr p11 =>
    let b12 : Bool := decide (p11.2.1 > p11.2.2.2.2.2.2.2.2.2.1)
    bif b12 then
     some (2, ())
    else
     let x13 : Int := (wrap64 (p11.2.2.2.2.2.2.2.2.1 * p11.2.2.2.2.2.1))
     let b14 : Bool := decide ((wrap64 (p11.1 * 100)) > x13)
     bif b14 then
      some (8, ())
     else
      some (0, ())
 else none
noncomputable def spec_l22Hold.ent : Entry := ⟨[false, false, false], [.agg [.val .bor (.slice R1), .val .bor (.slice R2), .val .bor (.slice R5), .val .bor (.int .i64), .val .bor (.int .i64)], .cell (.val .bor (.int .i64)), .agg [.val .bor (.str), .val .bor (.int .i64), .val .bor (.int .i64), .val .bor (.int .i64), .val .bor (.int .i64), .val .bor (.int .i64), .val .bor (.str), .val .bor (.int .i64)]], [.cell (.val .bor (.int .i64))], [], fun v => spec_l22Hold v.1 v.2.1 v.2.2.1 v.2.2.2.1 v.2.2.2.2.1 v.2.2.2.2.2.1 v.2.2.2.2.2.2.1 v.2.2.2.2.2.2.2.1 v.2.2.2.2.2.2.2.2.1 v.2.2.2.2.2.2.2.2.2.1 v.2.2.2.2.2.2.2.2.2.2.1 v.2.2.2.2.2.2.2.2.2.2.2.1 v.2.2.2.2.2.2.2.2.2.2.2.2.1 v.2.2.2.2.2.2.2.2.2.2.2.2.2.1⟩
theorem spec_l22Hold.eq : ∀ v, evFn spec_l22Hold.E f36 spec_l22Hold.ent.ptrs spec_l22Hold.ent.ins spec_l22Hold.ent.rets spec_l22Hold.ent.outs v = spec_l22Hold.ent.f v := by intro v; kernel_rfl
theorem spec_l22Hold.fok : ∀ q ∈ ([] : List (Nat × Entry)), EntryOK Pr q.1 q.2 := by intro q hq; simp at hq
theorem spec_l22Hold_l7.it : ∀ n v, iter (evStep spec_l22Hold.E7 (bodyAt 7 f36) spec_l22Hold_l7.ent.ins spec_l22Hold_l7.ent.rts spec_l22Hold_l7.ent.hm spec_l22Hold_l7.ent.nl spec_l22Hold_l7.ent.xs) n v = spec_l22Hold_l7 n v.1 v.2.1 v.2.2.1 v.2.2.2.1 v.2.2.2.2.1 v.2.2.2.2.2.1 v.2.2.2.2.2.2.1 v.2.2.2.2.2.2.2.1 v.2.2.2.2.2.2.2.2.1 v.2.2.2.2.2.2.2.2.2.1 v.2.2.2.2.2.2.2.2.2.2.1 v.2.2.2.2.2.2.2.2.2.2.2.1 v.2.2.2.2.2.2.2.2.2.2.2.2.1 v.2.2.2.2.2.2.2.2.2.2.2.2.2.1 v.2.2.2.2.2.2.2.2.2.2.2.2.2.2.1 v.2.2.2.2.2.2.2.2.2.2.2.2.2.2.2.1 v.2.2.2.2.2.2.2.2.2.2.2.2.2.2.2.2.1 v.2.2.2.2.2.2.2.2.2.2.2.2.2.2.2.2.2.1 v.2.2.2.2.2.2.2.2.2.2.2.2.2.2.2.2.2.2.1 v.2.2.2.2.2.2.2.2.2.2.2.2.2.2.2.2.2.2.2.1 v.2.2.2.2.2.2.2.2.2.2.2.2.2.2.2.2.2.2.2.2.1 v.2.2.2.2.2.2.2.2.2.2.2.2.2.2.2.2.2.2.2.2.2.1 v.2.2.2.2.2.2.2.2.2.2.2.2.2.2.2.2.2.2.2.2.2.2.1 := by
 intro n
 induction n with
 | zero => intro v; rfl
 | succ n ih =>
  intro v
  show (evStep spec_l22Hold.E7 (bodyAt 7 f36) spec_l22Hold_l7.ent.ins spec_l22Hold_l7.ent.rts spec_l22Hold_l7.ent.hm spec_l22Hold_l7.ent.nl spec_l22Hold_l7.ent.xs) (iter (evStep spec_l22Hold.E7 (bodyAt 7 f36) spec_l22Hold_l7.ent.ins spec_l22Hold_l7.ent.rts spec_l22Hold_l7.ent.hm spec_l22Hold_l7.ent.nl spec_l22Hold_l7.ent.xs) n) v = _
  rw [spec_l22Hold_l7.eq, show (fun c0 c1 c2 c3 c4 c5 c6 c7 c8 c9 c10 c11 c12 c13 c14 c15 c16 c17 c18 c19 c20 c21 c22 => iter (evStep spec_l22Hold.E7 (bodyAt 7 f36) spec_l22Hold_l7.ent.ins spec_l22Hold_l7.ent.rts spec_l22Hold_l7.ent.hm spec_l22Hold_l7.ent.nl spec_l22Hold_l7.ent.xs) n (c0, c1, c2, c3, c4, c5, c6, c7, c8, c9, c10, c11, c12, c13, c14, c15, c16, c17, c18, c19, c20, c21, c22, ())) = spec_l22Hold_l7 n from by funext c0 c1 c2 c3 c4 c5 c6 c7 c8 c9 c10 c11 c12 c13 c14 c15 c16 c17 c18 c19 c20 c21 c22; exact ih _]
  rfl
theorem spec_l22Hold_l7.fr : firstRegion (bodyAt 7 f36) = 7 := by kernel_rfl
theorem spec_l22Hold_l7.ls : loopsOf (bodyAt 7 f36) = [] := by kernel_rfl
theorem spec_l22Hold_l7.lok {E : Env} (hpin : spec_l22Hold.E7.pin = E.pin) (hfind : find 7 E.loops = some spec_l22Hold_l7.ent) : LoopOK Pr E (bodyAt 7 f36) :=
 loop_of (E1 := spec_l22Hold.E7) (EnvOK.of dok spec_l22Hold.fok) mixed hpin (by rw [spec_l22Hold_l7.fr]; exact hfind) spec_l22Hold_l7.ls (by intro l hl; simp at hl) (fun v => (spec_l22Hold_l7.it K0 v).symm)
theorem spec_l22Hold.ls : loopsOf (bodyOf f36) = [bodyAt 7 f36] := by kernel_rfl
theorem spec_l22Hold.ok : EntryOK Pr 36 spec_l22Hold.ent :=
 entry_ok (E := spec_l22Hold.E) (EnvOK.of dok spec_l22Hold.fok) mixed (fn := f36) (by kernel_rfl) (by kernel_rfl) (by decide) spec_l22Hold.ls (by intro l hl; simp only [List.mem_singleton] at hl; subst hl; exact spec_l22Hold_l7.lok rfl rfl) spec_l22Hold.eq
/-! ### loop.example/g00038/spec.l22Used -/
noncomputable def spec_l22Used.E4 : Env := ⟨D, [], [], []⟩
noncomputable def spec_l22Used_l4_step (rec : Int → Int → Int → Int → List V1 → List V2 → List V5 → Int → Int → Option ((Int × Int × Unit))) (y0 : Int) (y1 : Int) (y2 : Int) (y3 : Int) (y4 : List V1) (y5 : List V2) (y6 : List V5) (y7 : Int) (y8 : Int) : Option ((Int × Int × Unit)) :=
 let b1 : Bool := decide (y3 < (y5.length : Int))
 bif b1 then
  let e2 : V2 := rd R2 y5 y3
  bif decide (0 ≤ y3) && decide (y3 < (y5.length : Int)) then
   let x3 : Int := (wrap64 (y2 + e2.2.2.2.1))
   let x4 : Int := (bif (e2.2.1 == y0) then y0 else y0)
   let x5 : Int := (bif (e2.2.1 == y0) then (wrap64 (y1 + e2.2.2.1)) else y1)
   let x6 : Int := (bif (e2.2.1 == y0) then x3 else y2)
   let x7 : Int := (bif (e2.2.1 == y0) then y3 else y3)
   let l8 : List V2 := (bif (e2.2.1 == y0) then y5 else y5)
   let l13 : List V1 := (bif (e2.2.1 == y0) then y4 else y4)
   let l14 : List V5 := (bif (e2.2.1 == y0) then y6 else y6)
   let x15 : Int := (bif (e2.2.1 == y0) then y7 else y7)
   let x16 : Int := (bif (e2.2.1 == y0) then y8 else y8)
   bif (!(e2.2.1 == y0) || (decide (0 ≤ y3) && decide (y3 < (y5.length : Int)))) && (!(e2.2.1 == y0) || (decide (0 ≤ y3) && decide (y3 < (y5.length : Int)))) then
    rec x4 x5 x6 (wrap64 (x7 + 1)) l13 l8 l14 x15 x16
   else none
  else none
 else
  some (y1, y2, ())
noncomputable def spec_l22Used_l4 : Nat → Int → Int → Int → Int → List V1 → List V2 → List V5 → Int → Int → Option ((Int × Int × Unit))
 | 0 => fun _ _ _ _ _ _ _ _ _ => none
 | n + 1 => spec_l22Used_l4_step (spec_l22Used_l4 n)
noncomputable def spec_l22Used_l4.ent : LEntry := ⟨sk 1 (.cell (.val .bor (.int .i64)) :: (.cell (.fix (.ptr 2 0)) :: (sk 3 (.cell (.val .bor (.int .i64)) :: (.cell (.val .bor (.int .i64)) :: (.cell (.val .bor (.int .i64)) :: (sk 33 []))))))), rk 2 ([.val .bor (.slice R1), .val .bor (.slice R2), .val .bor (.slice R5), .val .bor (.int .i64), .val .bor (.int .i64)] :: (rk 39 [])), [], [], [⟨some 0, sk 6 (.cell (.val .bor (.int .i64)) :: (.cell (.val .bor (.int .i64)) :: (sk 34 []))), rk 42 [], [], []⟩], fun v => spec_l22Used_l4 K0 v.1 v.2.1 v.2.2.1 v.2.2.2.1 v.2.2.2.2.1 v.2.2.2.2.2.1 v.2.2.2.2.2.2.1 v.2.2.2.2.2.2.2.1 v.2.2.2.2.2.2.2.2.1⟩
theorem spec_l22Used_l4.eq : ∀ rec v, evStep spec_l22Used.E4 (bodyAt 4 f37) spec_l22Used_l4.ent.ins spec_l22Used_l4.ent.rts spec_l22Used_l4.ent.hm spec_l22Used_l4.ent.nl spec_l22Used_l4.ent.xs rec v = spec_l22Used_l4_step (fun c0 c1 c2 c3 c4 c5 c6 c7 c8 => rec (c0, c1, c2, c3, c4, c5, c6, c7, c8, ())) v.1 v.2.1 v.2.2.1 v.2.2.2.1 v.2.2.2.2.1 v.2.2.2.2.2.1 v.2.2.2.2.2.2.1 v.2.2.2.2.2.2.2.1 v.2.2.2.2.2.2.2.2.1 := by intro rec v; kernel_rfl
noncomputable def spec_l22Used.E : Env := ⟨D, [], [], [(4, spec_l22Used_l4.ent)]⟩
noncomputable def spec_l22Used (a0 : List V1) (a1 : List V2) (a2 : List V5) (a3 : Int) (a4 : Int) (a5 : Int) : Option (Int × Int × Unit) :=
 (spec_l22Used_l4 K0 a5 0 0 0 a0 a1 a2 a3 a4).bind fun o17 =>
 some (o17.1, o17.2.1, ())
noncomputable def spec_l22Used.ent : Entry := ⟨[false, false], [.agg [.val .bor (.slice R1), .val .bor (.slice R2), .val .bor (.slice R5), .val .bor (.int .i64), .val .bor (.int .i64)], .cell (.val .bor (.int .i64))], [.cell (.val .bor (.int .i64)), .cell (.val .bor (.int .i64))], [], fun v => spec_l22Used v.1 v.2.1 v.2.2.1 v.2.2.2.1 v.2.2.2.2.1 v.2.2.2.2.2.1⟩
theorem spec_l22Used.eq : ∀ v, evFn spec_l22Used.E f37 spec_l22Used.ent.ptrs spec_l22Used.ent.ins spec_l22Used.ent.rets spec_l22Used.ent.outs v = spec_l22Used.ent.f v := by intro v; kernel_rfl
theorem spec_l22Used.fok : ∀ q ∈ ([] : List (Nat × Entry)), EntryOK Pr q.1 q.2 := by intro q hq; simp at hq
theorem spec_l22Used_l4.it : ∀ n v, iter (evStep spec_l22Used.E4 (bodyAt 4 f37) spec_l22Used_l4.ent.ins spec_l22Used_l4.ent.rts spec_l22Used_l4.ent.hm spec_l22Used_l4.ent.nl spec_l22Used_l4.ent.xs) n v = spec_l22Used_l4 n v.1 v.2.1 v.2.2.1 v.2.2.2.1 v.2.2.2.2.1 v.2.2.2.2.2.1 v.2.2.2.2.2.2.1 v.2.2.2.2.2.2.2.1 v.2.2.2.2.2.2.2.2.1 := by
 intro n
 induction n with
 | zero => intro v; rfl
 | succ n ih =>
  intro v
  show (evStep spec_l22Used.E4 (bodyAt 4 f37) spec_l22Used_l4.ent.ins spec_l22Used_l4.ent.rts spec_l22Used_l4.ent.hm spec_l22Used_l4.ent.nl spec_l22Used_l4.ent.xs) (iter (evStep spec_l22Used.E4 (bodyAt 4 f37) spec_l22Used_l4.ent.ins spec_l22Used_l4.ent.rts spec_l22Used_l4.ent.hm spec_l22Used_l4.ent.nl spec_l22Used_l4.ent.xs) n) v = _
  rw [spec_l22Used_l4.eq, show (fun c0 c1 c2 c3 c4 c5 c6 c7 c8 => iter (evStep spec_l22Used.E4 (bodyAt 4 f37) spec_l22Used_l4.ent.ins spec_l22Used_l4.ent.rts spec_l22Used_l4.ent.hm spec_l22Used_l4.ent.nl spec_l22Used_l4.ent.xs) n (c0, c1, c2, c3, c4, c5, c6, c7, c8, ())) = spec_l22Used_l4 n from by funext c0 c1 c2 c3 c4 c5 c6 c7 c8; exact ih _]
  rfl
theorem spec_l22Used_l4.fr : firstRegion (bodyAt 4 f37) = 4 := by kernel_rfl
theorem spec_l22Used_l4.ls : loopsOf (bodyAt 4 f37) = [] := by kernel_rfl
theorem spec_l22Used_l4.lok {E : Env} (hpin : spec_l22Used.E4.pin = E.pin) (hfind : find 4 E.loops = some spec_l22Used_l4.ent) : LoopOK Pr E (bodyAt 4 f37) :=
 loop_of (E1 := spec_l22Used.E4) (EnvOK.of dok spec_l22Used.fok) mixed hpin (by rw [spec_l22Used_l4.fr]; exact hfind) spec_l22Used_l4.ls (by intro l hl; simp at hl) (fun v => (spec_l22Used_l4.it K0 v).symm)
theorem spec_l22Used.ls : loopsOf (bodyOf f37) = [bodyAt 4 f37] := by kernel_rfl
theorem spec_l22Used.ok : EntryOK Pr 37 spec_l22Used.ent :=
 entry_ok (E := spec_l22Used.E) (EnvOK.of dok spec_l22Used.fok) mixed (fn := f37) (by kernel_rfl) (by kernel_rfl) (by decide) spec_l22Used.ls (by intro l hl; simp only [List.mem_singleton] at hl; subst hl; exact spec_l22Used_l4.lok rfl rfl) spec_l22Used.eq
/-! ### loop.example/g00038/spec.ClusterFault -/
noncomputable def spec_ClusterFault.E4 : Env := ⟨D, [], [(33, spec_l22Nodes.ent), (34, spec_l22IsVm.ent), (35, spec_l22Node.ent), (36, spec_l22Hold.ent), (37, spec_l22Used.ent)], []⟩
noncomputable def spec_ClusterFault_l4_step (rec : Int → List V1 → List V2 → List V5 → Int → Int → Option ((Int × Unit) ⊕ (List V1 × List V2 × List V5 × Int × Int × Unit))) (y0 : Int) (y1 : List V1) (y2 : List V2) (y3 : List V5) (y4 : Int) (y5 : Int) : Option ((Int × Unit) ⊕ (List V1 × List V2 × List V5 × Int × Int × Unit)) :=
 let b9 : Bool := decide (y0 < (y2.length : Int))
 bif b9 then
  let e10 : V2 := rd R2 y2 y0
  bif decide (0 ≤ y0) && decide (y0 < (y2.length : Int)) then
   let r11 : Bool × Unit := (spec_l22IsVm e10.1 e10.2.1 e10.2.2.1 e10.2.2.2.1 e10.2.2.2.2.1 e10.2.2.2.2.2.1 e10.2.2.2.2.2.2.1 e10.2.2.2.2.2.2.2 (y3.length : Int)).getD (false, ())
   let e12 : V2 := rd R2 y2 (wrap64 (y0 - 1))
   let b13 : Bool := (decide (y0 > 0) && !slt e12.1 e10.1)
   let b14 : Bool := decide (e10.2.2.2.2.2.2.2 < 0)
   let b15 : Bool := decide (e10.2.2.2.2.2.2.2 > 1099511627776)
   let b16 : Bool := (((!r11.1 || b13) || b14) || b15)
   bif ((spec_l22IsVm e10.1 e10.2.1 e10.2.2.1 e10.2.2.2.1 e10.2.2.2.2.1 e10.2.2.2.2.2.1 e10.2.2.2.2.2.2.1 e10.2.2.2.2.2.2.2 (y3.length : Int)).isSome) && (!(!(!r11.1) && decide (y0 > 0)) || (decide (0 ≤ (wrap64 (y0 - 1))) && decide ((wrap64 (y0 - 1)) < (y2.length : Int)))) then
    bif b16 then
     some (Sum.inl (1, ()))
    else
     let b17 : Bool := seq e10.2.2.2.2.2.2.1 (⟨#[]⟩ : ByteArray)
     bif b17 then
      rec (wrap64 (y0 + 1)) y1 y2 y3 y4 y5
     else
      (spec_l22Node y1 y2 y3 y4 y5 e10.2.2.2.2.2.2.1).bind fun r18 =>
      let r19 : Int × Unit := (spec_l22Hold y1 y2 y3 y4 y5 r18.1 e10.1 e10.2.1 e10.2.2.1 e10.2.2.2.1 e10.2.2.2.2.1 e10.2.2.2.2.2.1 e10.2.2.2.2.2.2.1 e10.2.2.2.2.2.2.2).getD (0, ())
      let b20 : Bool := (decide (r18.1 < 0) || (r19.1 != 0))
      bif (!(!(decide (r18.1 < 0))) || ((spec_l22Hold y1 y2 y3 y4 y5 r18.1 e10.1 e10.2.1 e10.2.2.1 e10.2.2.2.1 e10.2.2.2.2.1 e10.2.2.2.2.2.1 e10.2.2.2.2.2.2.1 e10.2.2.2.2.2.2.2).isSome)) then
       bif b20 then
        some (Sum.inl (1, ()))
       else
        rec (wrap64 (y0 + 1)) y1 y2 y3 y4 y5
      else none
   else none
  else none
 else
  some (Sum.inr (y1, y2, y3, y4, y5, ()))
noncomputable def spec_ClusterFault_l4 : Nat → Int → List V1 → List V2 → List V5 → Int → Int → Option ((Int × Unit) ⊕ (List V1 × List V2 × List V5 × Int × Int × Unit))
 | 0 => fun _ _ _ _ _ _ => none
 | n + 1 => spec_ClusterFault_l4_step (spec_ClusterFault_l4 n)
noncomputable def spec_ClusterFault_l4.ent : LEntry := ⟨sk 1 (.cell (.fix (.ptr 1 0)) :: (sk 1 (.cell (.val .bor (.int .i64)) :: (sk 165 [])))), rk 1 ([.val .bor (.slice R1), .val .bor (.slice R2), .val .bor (.slice R5), .val .bor (.int .i64), .val .bor (.int .i64)] :: (rk 167 [])), [], [], [⟨none, sk 2 (.cell (.val .bor (.int .i64)) :: (sk 166 [])), rk 169 [], [], []⟩, ⟨some 0, sk 1 (.cell (.fix (.ptr 1 0)) :: (sk 167 [])), rk 1 ([.val .bor (.slice R1), .val .bor (.slice R2), .val .bor (.slice R5), .val .bor (.int .i64), .val .bor (.int .i64)] :: (rk 167 [])), [], []⟩], fun v => spec_ClusterFault_l4 K0 v.1 v.2.1 v.2.2.1 v.2.2.2.1 v.2.2.2.2.1 v.2.2.2.2.2.1⟩
theorem spec_ClusterFault_l4.eq : ∀ rec v, evStep spec_ClusterFault.E4 (bodyAt 4 f10) spec_ClusterFault_l4.ent.ins spec_ClusterFault_l4.ent.rts spec_ClusterFault_l4.ent.hm spec_ClusterFault_l4.ent.nl spec_ClusterFault_l4.ent.xs rec v = spec_ClusterFault_l4_step (fun c0 c1 c2 c3 c4 c5 => rec (c0, c1, c2, c3, c4, c5, ())) v.1 v.2.1 v.2.2.1 v.2.2.2.1 v.2.2.2.2.1 v.2.2.2.2.2.1 := by intro rec v; kernel_rfl
noncomputable def spec_ClusterFault.E14 : Env := ⟨D, [], [(33, spec_l22Nodes.ent), (34, spec_l22IsVm.ent), (35, spec_l22Node.ent), (36, spec_l22Hold.ent), (37, spec_l22Used.ent)], [(4, spec_ClusterFault_l4.ent)]⟩
noncomputable def spec_ClusterFault_l14_step (rec : Int → List V1 → List V2 → List V5 → Int → Int → Option ((Int × Unit) ⊕ (Unit))) (y0 : Int) (y1 : List V1) (y2 : List V2) (y3 : List V5) (y4 : Int) (y5 : Int) : Option ((Int × Unit) ⊕ (Unit)) :=
 let b24 : Bool := decide (y0 < (y3.length : Int))
 bif b24 then
  let e25 : V5 := rd R5 y3 y0
  bif decide (0 ≤ y0) && decide (y0 < (y3.length : Int)) then
   (spec_l22Used y1 y2 y3 y4 y5 y0).bind fun r26 =>
   let b27 : Bool := (decide (e25.1 < 0) || decide (e25.1 > 10000))
   let b28 : Bool := (b27 || decide (e25.2.1 < 0))
   let b29 : Bool := (b28 || decide (e25.2.1 > 10000))
   let b30 : Bool := (b29 || decide (e25.2.2 < 0))
   let b31 : Bool := decide (e25.2.2 > 1152921504606846976)
   let b32 : Bool := ((b30 || b31) || decide (r26.1 > e25.1))
   let b33 : Bool := decide (r26.2.1 > e25.2.1)
   bif (b32 || b33) then
    some (Sum.inl (1, ()))
   else
    rec (wrap64 (y0 + 1)) y1 y2 y3 y4 y5
  else none
 else
  some (Sum.inr ())
noncomputable def spec_ClusterFault_l14 : Nat → Int → List V1 → List V2 → List V5 → Int → Int → Option ((Int × Unit) ⊕ (Unit))
 | 0 => fun _ _ _ _ _ _ => none
 | n + 1 => spec_ClusterFault_l14_step (spec_ClusterFault_l14 n)
noncomputable def spec_ClusterFault_l14.ent : LEntry := ⟨sk 1 (.cell (.fix (.ptr 1 0)) :: (sk 4 (.cell (.val .bor (.int .i64)) :: (sk 162 [])))), rk 1 ([.val .bor (.slice R1), .val .bor (.slice R2), .val .bor (.slice R5), .val .bor (.int .i64), .val .bor (.int .i64)] :: (rk 167 [])), [], [], [⟨none, sk 2 (.cell (.val .bor (.int .i64)) :: (sk 166 [])), rk 169 [], [], []⟩, ⟨some 2, sk 169 [], rk 169 [], [], []⟩], fun v => spec_ClusterFault_l14 K0 v.1 v.2.1 v.2.2.1 v.2.2.2.1 v.2.2.2.2.1 v.2.2.2.2.2.1⟩
theorem spec_ClusterFault_l14.eq : ∀ rec v, evStep spec_ClusterFault.E14 (bodyAt 14 f10) spec_ClusterFault_l14.ent.ins spec_ClusterFault_l14.ent.rts spec_ClusterFault_l14.ent.hm spec_ClusterFault_l14.ent.nl spec_ClusterFault_l14.ent.xs rec v = spec_ClusterFault_l14_step (fun c0 c1 c2 c3 c4 c5 => rec (c0, c1, c2, c3, c4, c5, ())) v.1 v.2.1 v.2.2.1 v.2.2.2.1 v.2.2.2.2.1 v.2.2.2.2.2.1 := by intro rec v; kernel_rfl
noncomputable def spec_ClusterFault.E : Env := ⟨D, [], [(33, spec_l22Nodes.ent), (34, spec_l22IsVm.ent), (35, spec_l22Node.ent), (36, spec_l22Hold.ent), (37, spec_l22Used.ent)], [(4, spec_ClusterFault_l4.ent), (14, spec_ClusterFault_l14.ent)]⟩
noncomputable def spec_ClusterFault (a0 : List V1) (a1 : List V2) (a2 : List V5) (a3 : Int) (a4 : Int) : Option (Int × Unit) :=
 let b1 : Bool := (decide (a3 < 100) || decide (a3 > 400))
 let b2 : Bool := decide (a4 > 1099511627776)
 let b3 : Bool := ((b1 || decide (a4 < 0)) || b2)
 let r4 : Bool × Unit := (spec_l22Nodes a0 a1 a2 a3 a4).getD (false, ())
 let b5 : Bool := decide ((a1.length : Int) > 30)
 let b6 : Bool := decide ((a2.length : Int) < 1)
 let b7 : Bool := (((b3 || !r4.1) || b5) || b6)
 let b8 : Bool := decide ((a2.length : Int) > 8)
 bif (!(!b3) || ((spec_l22Nodes a0 a1 a2 a3 a4).isSome)) then
  bif (b7 || b8) then
   some (1, ())
  else
   (spec_ClusterFault_l4 K0 0 a0 a1 a2 a3 a4).bind fun o21 =>
   match o21 with
   | Sum.inl p22 =>
    some (p22.1, ())
   | Sum.inr p23 =>
    (spec_ClusterFault_l14 K0 0 p23.1 p23.2.1 p23.2.2.1 p23.2.2.2.1 p23.2.2.2.2.1).bind fun o34 =>
    match o34 with
    | Sum.inl p35 =>
     some (p35.1, ())
    | Sum.inr p36 =>
     some (0, ())
 else none
noncomputable def spec_ClusterFault.ent : Entry := ⟨[false], [.agg [.val .bor (.slice R1), .val .bor (.slice R2), .val .bor (.slice R5), .val .bor (.int .i64), .val .bor (.int .i64)]], [.cell (.val .bor (.int .i64))], [], fun v => spec_ClusterFault v.1 v.2.1 v.2.2.1 v.2.2.2.1 v.2.2.2.2.1⟩
theorem spec_ClusterFault.eq : ∀ v, evFn spec_ClusterFault.E f10 spec_ClusterFault.ent.ptrs spec_ClusterFault.ent.ins spec_ClusterFault.ent.rets spec_ClusterFault.ent.outs v = spec_ClusterFault.ent.f v := by intro v; kernel_rfl
theorem spec_ClusterFault.fok : ∀ q ∈ [((33 : Nat), spec_l22Nodes.ent), ((34 : Nat), spec_l22IsVm.ent), ((35 : Nat), spec_l22Node.ent), ((36 : Nat), spec_l22Hold.ent), ((37 : Nat), spec_l22Used.ent)], EntryOK Pr q.1 q.2 := by
 intro q hq
 simp only [List.mem_cons, List.mem_nil_iff, or_false] at hq
 rcases hq with rfl | rfl | rfl | rfl | rfl
 · exact spec_l22Nodes.ok
 · exact spec_l22IsVm.ok
 · exact spec_l22Node.ok
 · exact spec_l22Hold.ok
 · exact spec_l22Used.ok
theorem spec_ClusterFault_l4.it : ∀ n v, iter (evStep spec_ClusterFault.E4 (bodyAt 4 f10) spec_ClusterFault_l4.ent.ins spec_ClusterFault_l4.ent.rts spec_ClusterFault_l4.ent.hm spec_ClusterFault_l4.ent.nl spec_ClusterFault_l4.ent.xs) n v = spec_ClusterFault_l4 n v.1 v.2.1 v.2.2.1 v.2.2.2.1 v.2.2.2.2.1 v.2.2.2.2.2.1 := by
 intro n
 induction n with
 | zero => intro v; rfl
 | succ n ih =>
  intro v
  show (evStep spec_ClusterFault.E4 (bodyAt 4 f10) spec_ClusterFault_l4.ent.ins spec_ClusterFault_l4.ent.rts spec_ClusterFault_l4.ent.hm spec_ClusterFault_l4.ent.nl spec_ClusterFault_l4.ent.xs) (iter (evStep spec_ClusterFault.E4 (bodyAt 4 f10) spec_ClusterFault_l4.ent.ins spec_ClusterFault_l4.ent.rts spec_ClusterFault_l4.ent.hm spec_ClusterFault_l4.ent.nl spec_ClusterFault_l4.ent.xs) n) v = _
  rw [spec_ClusterFault_l4.eq, show (fun c0 c1 c2 c3 c4 c5 => iter (evStep spec_ClusterFault.E4 (bodyAt 4 f10) spec_ClusterFault_l4.ent.ins spec_ClusterFault_l4.ent.rts spec_ClusterFault_l4.ent.hm spec_ClusterFault_l4.ent.nl spec_ClusterFault_l4.ent.xs) n (c0, c1, c2, c3, c4, c5, ())) = spec_ClusterFault_l4 n from by funext c0 c1 c2 c3 c4 c5; exact ih _]
  rfl
theorem spec_ClusterFault_l4.fr : firstRegion (bodyAt 4 f10) = 4 := by kernel_rfl
theorem spec_ClusterFault_l4.ls : loopsOf (bodyAt 4 f10) = [] := by kernel_rfl
theorem spec_ClusterFault_l4.lok {E : Env} (hpin : spec_ClusterFault.E4.pin = E.pin) (hfind : find 4 E.loops = some spec_ClusterFault_l4.ent) : LoopOK Pr E (bodyAt 4 f10) :=
 loop_of (E1 := spec_ClusterFault.E4) (EnvOK.of dok spec_ClusterFault.fok) mixed hpin (by rw [spec_ClusterFault_l4.fr]; exact hfind) spec_ClusterFault_l4.ls (by intro l hl; simp at hl) (fun v => (spec_ClusterFault_l4.it K0 v).symm)
theorem spec_ClusterFault_l14.it : ∀ n v, iter (evStep spec_ClusterFault.E14 (bodyAt 14 f10) spec_ClusterFault_l14.ent.ins spec_ClusterFault_l14.ent.rts spec_ClusterFault_l14.ent.hm spec_ClusterFault_l14.ent.nl spec_ClusterFault_l14.ent.xs) n v = spec_ClusterFault_l14 n v.1 v.2.1 v.2.2.1 v.2.2.2.1 v.2.2.2.2.1 v.2.2.2.2.2.1 := by
 intro n
 induction n with
 | zero => intro v; rfl
 | succ n ih =>
  intro v
  show (evStep spec_ClusterFault.E14 (bodyAt 14 f10) spec_ClusterFault_l14.ent.ins spec_ClusterFault_l14.ent.rts spec_ClusterFault_l14.ent.hm spec_ClusterFault_l14.ent.nl spec_ClusterFault_l14.ent.xs) (iter (evStep spec_ClusterFault.E14 (bodyAt 14 f10) spec_ClusterFault_l14.ent.ins spec_ClusterFault_l14.ent.rts spec_ClusterFault_l14.ent.hm spec_ClusterFault_l14.ent.nl spec_ClusterFault_l14.ent.xs) n) v = _
  rw [spec_ClusterFault_l14.eq, show (fun c0 c1 c2 c3 c4 c5 => iter (evStep spec_ClusterFault.E14 (bodyAt 14 f10) spec_ClusterFault_l14.ent.ins spec_ClusterFault_l14.ent.rts spec_ClusterFault_l14.ent.hm spec_ClusterFault_l14.ent.nl spec_ClusterFault_l14.ent.xs) n (c0, c1, c2, c3, c4, c5, ())) = spec_ClusterFault_l14 n from by funext c0 c1 c2 c3 c4 c5; exact ih _]
  rfl
theorem spec_ClusterFault_l14.fr : firstRegion (bodyAt 14 f10) = 14 := by kernel_rfl
theorem spec_ClusterFault_l14.ls : loopsOf (bodyAt 14 f10) = [] := by kernel_rfl
theorem spec_ClusterFault_l14.lok {E : Env} (hpin : spec_ClusterFault.E14.pin = E.pin) (hfind : find 14 E.loops = some spec_ClusterFault_l14.ent) : LoopOK Pr E (bodyAt 14 f10) :=
 loop_of (E1 := spec_ClusterFault.E14) (EnvOK.of dok spec_ClusterFault.fok) mixed hpin (by rw [spec_ClusterFault_l14.fr]; exact hfind) spec_ClusterFault_l14.ls (by intro l hl; simp at hl) (fun v => (spec_ClusterFault_l14.it K0 v).symm)
theorem spec_ClusterFault.ls : loopsOf (bodyOf f10) = [bodyAt 4 f10, bodyAt 14 f10] := by kernel_rfl
theorem spec_ClusterFault.ok : EntryOK Pr 10 spec_ClusterFault.ent :=
 entry_ok (E := spec_ClusterFault.E) (EnvOK.of dok spec_ClusterFault.fok) mixed (fn := f10) (by kernel_rfl) (by kernel_rfl) (by decide) spec_ClusterFault.ls (by
  intro l hl
  simp only [List.mem_cons, List.mem_nil_iff, or_false] at hl
  rcases hl with rfl | rfl
  · exact spec_ClusterFault_l4.lok rfl rfl
  · exact spec_ClusterFault_l14.lok rfl rfl) spec_ClusterFault.eq
/-! ### loop.example/g00038/spec.l23Job -/
noncomputable def spec_l23Job.E4 : Env := ⟨D, [], [(74, spec_l13Name.ent)], []⟩
noncomputable def spec_l23Job_l4_step (rec : Int → Int → ByteArray → List ByteArray → Int → Int → Option ((Bool × Unit) ⊕ (Unit))) (y0 : Int) (y1 : Int) (y2 : ByteArray) (y3 : List ByteArray) (y4 : Int) (y5 : Int) : Option ((Bool × Unit) ⊕ (Unit)) :=
 let b6 : Bool := decide (y0 < (y3.length : Int))
 bif b6 then
  (spec_l13Name (rd (.str) y3 y0)).bind fun r7 =>
  bif decide (0 ≤ y0) && decide (y0 < (y3.length : Int)) then
   bif !r7.1 then
    some (Sum.inl (false, ()))
   else
    rec (wrap64 (y0 + 1)) y1 y2 y3 y4 y5
  else none
 else
  some (Sum.inr ())
noncomputable def spec_l23Job_l4 : Nat → Int → Int → ByteArray → List ByteArray → Int → Int → Option ((Bool × Unit) ⊕ (Unit))
 | 0 => fun _ _ _ _ _ _ => none
 | n + 1 => spec_l23Job_l4_step (spec_l23Job_l4 n)
noncomputable def spec_l23Job_l4.ent : LEntry := ⟨sk 1 (.cell (.fix (.ptr 1 0)) :: (sk 1 (.cell (.val .bor (.int .i64)) :: (sk 44 [])))), rk 1 ([.val .bor (.int .i64), .val .bor (.str), .val .bor (.slice (.str)), .val .bor (.int .i64), .val .bor (.int .i64)] :: (rk 46 [])), [], [], [⟨none, sk 2 (.cell (.val .bor (.bool)) :: (sk 45 [])), rk 48 [], [], []⟩, ⟨some 0, sk 48 [], rk 48 [], [], []⟩], fun v => spec_l23Job_l4 K0 v.1 v.2.1 v.2.2.1 v.2.2.2.1 v.2.2.2.2.1 v.2.2.2.2.2.1⟩
theorem spec_l23Job_l4.eq : ∀ rec v, evStep spec_l23Job.E4 (bodyAt 4 f57) spec_l23Job_l4.ent.ins spec_l23Job_l4.ent.rts spec_l23Job_l4.ent.hm spec_l23Job_l4.ent.nl spec_l23Job_l4.ent.xs rec v = spec_l23Job_l4_step (fun c0 c1 c2 c3 c4 c5 => rec (c0, c1, c2, c3, c4, c5, ())) v.1 v.2.1 v.2.2.1 v.2.2.2.1 v.2.2.2.2.1 v.2.2.2.2.2.1 := by intro rec v; kernel_rfl
noncomputable def spec_l23Job.E : Env := ⟨D, [], [(74, spec_l13Name.ent)], [(4, spec_l23Job_l4.ent)]⟩
noncomputable def spec_l23Job (a0 : Int) (a1 : ByteArray) (a2 : List ByteArray) (a3 : Int) (a4 : Int) : Option (Bool × Unit) :=
 (spec_l13Name a1).bind fun r1 =>
 let b2 : Bool := decide ((a2.length : Int) > 30)
 let b3 : Bool := ((!r1.1 || b2) || decide (a3 < 0))
 let b4 : Bool := decide (a3 > 1099511627776)
 let b5 : Bool := ((b3 || b4) || decide (a4 < 0))
 bif (b5 || decide (a4 > 3)) then
  some (false, ())
 else
  (spec_l23Job_l4 K0 0 a0 a1 a2 a3 a4).bind fun o8 =>
  match o8 with
  | Sum.inl p9 =>
   some (p9.1, ())
  | Sum.inr p10 =>
   some (true, ())
noncomputable def spec_l23Job.ent : Entry := ⟨[false], [.agg [.val .bor (.int .i64), .val .bor (.str), .val .bor (.slice (.str)), .val .bor (.int .i64), .val .bor (.int .i64)]], [.cell (.val .bor (.bool))], [], fun v => spec_l23Job v.1 v.2.1 v.2.2.1 v.2.2.2.1 v.2.2.2.2.1⟩
theorem spec_l23Job.eq : ∀ v, evFn spec_l23Job.E f57 spec_l23Job.ent.ptrs spec_l23Job.ent.ins spec_l23Job.ent.rets spec_l23Job.ent.outs v = spec_l23Job.ent.f v := by intro v; kernel_rfl
theorem spec_l23Job.fok : ∀ q ∈ [((74 : Nat), spec_l13Name.ent)], EntryOK Pr q.1 q.2 := by
 intro q hq
 simp only [List.mem_cons, List.mem_nil_iff, or_false] at hq
 rcases hq with rfl
 · exact spec_l13Name.ok
theorem spec_l23Job_l4.it : ∀ n v, iter (evStep spec_l23Job.E4 (bodyAt 4 f57) spec_l23Job_l4.ent.ins spec_l23Job_l4.ent.rts spec_l23Job_l4.ent.hm spec_l23Job_l4.ent.nl spec_l23Job_l4.ent.xs) n v = spec_l23Job_l4 n v.1 v.2.1 v.2.2.1 v.2.2.2.1 v.2.2.2.2.1 v.2.2.2.2.2.1 := by
 intro n
 induction n with
 | zero => intro v; rfl
 | succ n ih =>
  intro v
  show (evStep spec_l23Job.E4 (bodyAt 4 f57) spec_l23Job_l4.ent.ins spec_l23Job_l4.ent.rts spec_l23Job_l4.ent.hm spec_l23Job_l4.ent.nl spec_l23Job_l4.ent.xs) (iter (evStep spec_l23Job.E4 (bodyAt 4 f57) spec_l23Job_l4.ent.ins spec_l23Job_l4.ent.rts spec_l23Job_l4.ent.hm spec_l23Job_l4.ent.nl spec_l23Job_l4.ent.xs) n) v = _
  rw [spec_l23Job_l4.eq, show (fun c0 c1 c2 c3 c4 c5 => iter (evStep spec_l23Job.E4 (bodyAt 4 f57) spec_l23Job_l4.ent.ins spec_l23Job_l4.ent.rts spec_l23Job_l4.ent.hm spec_l23Job_l4.ent.nl spec_l23Job_l4.ent.xs) n (c0, c1, c2, c3, c4, c5, ())) = spec_l23Job_l4 n from by funext c0 c1 c2 c3 c4 c5; exact ih _]
  rfl
theorem spec_l23Job_l4.fr : firstRegion (bodyAt 4 f57) = 4 := by kernel_rfl
theorem spec_l23Job_l4.ls : loopsOf (bodyAt 4 f57) = [] := by kernel_rfl
theorem spec_l23Job_l4.lok {E : Env} (hpin : spec_l23Job.E4.pin = E.pin) (hfind : find 4 E.loops = some spec_l23Job_l4.ent) : LoopOK Pr E (bodyAt 4 f57) :=
 loop_of (E1 := spec_l23Job.E4) (EnvOK.of dok spec_l23Job.fok) mixed hpin (by rw [spec_l23Job_l4.fr]; exact hfind) spec_l23Job_l4.ls (by intro l hl; simp at hl) (fun v => (spec_l23Job_l4.it K0 v).symm)
theorem spec_l23Job.ls : loopsOf (bodyOf f57) = [bodyAt 4 f57] := by kernel_rfl
theorem spec_l23Job.ok : EntryOK Pr 57 spec_l23Job.ent :=
 entry_ok (E := spec_l23Job.E) (EnvOK.of dok spec_l23Job.fok) mixed (fn := f57) (by kernel_rfl) (by kernel_rfl) (by decide) spec_l23Job.ls (by intro l hl; simp only [List.mem_singleton] at hl; subst hl; exact spec_l23Job_l4.lok rfl rfl) spec_l23Job.eq
/-! ### loop.example/g00038/spec.ManagerFault -/
noncomputable def spec_ManagerFault.E10 : Env := ⟨D, [], [(10, spec_ClusterFault.ent), (57, spec_l23Job.ent)], []⟩
noncomputable def spec_ManagerFault_l10_step (rec : Int → Int → List V1 → List V2 → List V5 → Int → Int → List V3 → List V4 → Int → Int → ByteArray → ByteArray → Option ((Int × Unit) ⊕ (Int × List V1 × List V2 × List V5 × Int × Int × List V3 × List V4 × Int × Unit))) (y0 : Int) (y1 : Int) (y2 : List V1) (y3 : List V2) (y4 : List V5) (y5 : Int) (y6 : Int) (y7 : List V3) (y8 : List V4) (y9 : Int) (y10 : Int) (y11 : ByteArray) (y12 : ByteArray) : Option ((Int × Unit) ⊕ (Int × List V1 × List V2 × List V5 × Int × Int × List V3 × List V4 × Int × Unit)) :=
 bif decide (y1 < y0) then
  let e13 : V3 := rd R3 y7 y1
  bif decide (0 ≤ y1) && decide (y1 < (y7.length : Int)) then
   bif (e13.1 == y10) then
    some (Sum.inl (1, ()))
   else
    rec y0 (wrap64 (y1 + 1)) y2 y3 y4 y5 y6 y7 y8 y9 y10 y11 y12
  else none
 else
  some (Sum.inr (y0, y2, y3, y4, y5, y6, y7, y8, y9, ()))
noncomputable def spec_ManagerFault_l10 : Nat → Int → Int → List V1 → List V2 → List V5 → Int → Int → List V3 → List V4 → Int → Int → ByteArray → ByteArray → Option ((Int × Unit) ⊕ (Int × List V1 × List V2 × List V5 × Int × Int × List V3 × List V4 × Int × Unit))
 | 0 => fun _ _ _ _ _ _ _ _ _ _ _ _ _ => none
 | n + 1 => spec_ManagerFault_l10_step (spec_ManagerFault_l10 n)
noncomputable def spec_ManagerFault_l10.ent : LEntry := ⟨sk 1 (.cell (.fix (.ptr 1 0)) :: (sk 1 (.cell (.val .bor (.int .i64)) :: (.cell (.fix (.ptr 4 0)) :: (.cell (.val .bor (.int .i64)) :: (sk 117 [])))))), rk 1 ([.val .bor (.slice R1), .val .bor (.slice R2), .val .bor (.slice R5), .val .bor (.int .i64), .val .bor (.int .i64), .val .bor (.slice R3), .val .bor (.slice R4), .val .bor (.int .i64)] :: (rk 2 ([.val .bor (.int .i64), .val .bor (.str), .val .bor (.str)] :: (rk 118 [])))), [], [], [⟨none, sk 2 (.cell (.val .bor (.int .i64)) :: (sk 120 [])), rk 123 [], [], []⟩, ⟨some 2, sk 1 (.cell (.fix (.ptr 1 0)) :: (sk 1 (.cell (.val .bor (.int .i64)) :: (sk 119 [])))), rk 1 ([.val .bor (.slice R1), .val .bor (.slice R2), .val .bor (.slice R5), .val .bor (.int .i64), .val .bor (.int .i64), .val .bor (.slice R3), .val .bor (.slice R4), .val .bor (.int .i64)] :: (rk 121 [])), [], []⟩], fun v => spec_ManagerFault_l10 K0 v.1 v.2.1 v.2.2.1 v.2.2.2.1 v.2.2.2.2.1 v.2.2.2.2.2.1 v.2.2.2.2.2.2.1 v.2.2.2.2.2.2.2.1 v.2.2.2.2.2.2.2.2.1 v.2.2.2.2.2.2.2.2.2.1 v.2.2.2.2.2.2.2.2.2.2.1 v.2.2.2.2.2.2.2.2.2.2.2.1 v.2.2.2.2.2.2.2.2.2.2.2.2.1⟩
theorem spec_ManagerFault_l10.eq : ∀ rec v, evStep spec_ManagerFault.E10 (bodyAt 10 f21) spec_ManagerFault_l10.ent.ins spec_ManagerFault_l10.ent.rts spec_ManagerFault_l10.ent.hm spec_ManagerFault_l10.ent.nl spec_ManagerFault_l10.ent.xs rec v = spec_ManagerFault_l10_step (fun c0 c1 c2 c3 c4 c5 c6 c7 c8 c9 c10 c11 c12 => rec (c0, c1, c2, c3, c4, c5, c6, c7, c8, c9, c10, c11, c12, ())) v.1 v.2.1 v.2.2.1 v.2.2.2.1 v.2.2.2.2.1 v.2.2.2.2.2.1 v.2.2.2.2.2.2.1 v.2.2.2.2.2.2.2.1 v.2.2.2.2.2.2.2.2.1 v.2.2.2.2.2.2.2.2.2.1 v.2.2.2.2.2.2.2.2.2.2.1 v.2.2.2.2.2.2.2.2.2.2.2.1 v.2.2.2.2.2.2.2.2.2.2.2.2.1 := by intro rec v; kernel_rfl
noncomputable def spec_ManagerFault.E4 : Env := ⟨D, [], [(10, spec_ClusterFault.ent), (57, spec_l23Job.ent)], [(10, spec_ManagerFault_l10.ent)]⟩
noncomputable def spec_ManagerFault_l4_step (rec : Int → List V1 → List V2 → List V5 → Int → Int → List V3 → List V4 → Int → Option ((Int × Unit) ⊕ (List V1 × List V2 × List V5 × Int × Int × List V3 × List V4 × Int × Unit))) (y0 : Int) (y1 : List V1) (y2 : List V2) (y3 : List V5) (y4 : Int) (y5 : Int) (y6 : List V3) (y7 : List V4) (y8 : Int) : Option ((Int × Unit) ⊕ (List V1 × List V2 × List V5 × Int × Int × List V3 × List V4 × Int × Unit)) :=
 let b7 : Bool := decide (y0 < (y6.length : Int))
 bif b7 then
  let e8 : V3 := rd R3 y6 y0
  bif decide (0 ≤ y0) && decide (y0 < (y6.length : Int)) then
   let b9 : Bool := decide (e8.1 > 999999999)
   let b10 : Bool := (decide (e8.1 < 1) || b9)
   let b11 : Bool := decide ((e8.2.1.size : Int) > 400)
   let b12 : Bool := decide ((e8.2.2.size : Int) > 400)
   bif ((b10 || b11) || b12) then
    some (Sum.inl (1, ()))
   else
    (spec_ManagerFault_l10 K0 y0 0 y1 y2 y3 y4 y5 y6 y7 y8 e8.1 e8.2.1 e8.2.2).bind fun o14 =>
    match o14 with
    | Sum.inl p15 =>
     some (Sum.inl (p15.1, ()))
    | Sum.inr p16 =>
     rec (wrap64 (p16.1 + 1)) p16.2.1 p16.2.2.1 p16.2.2.2.1 p16.2.2.2.2.1 p16.2.2.2.2.2.1 p16.2.2.2.2.2.2.1 p16.2.2.2.2.2.2.2.1 p16.2.2.2.2.2.2.2.2.1
  else none
 else
  some (Sum.inr (y1, y2, y3, y4, y5, y6, y7, y8, ()))
noncomputable def spec_ManagerFault_l4 : Nat → Int → List V1 → List V2 → List V5 → Int → Int → List V3 → List V4 → Int → Option ((Int × Unit) ⊕ (List V1 × List V2 × List V5 × Int × Int × List V3 × List V4 × Int × Unit))
 | 0 => fun _ _ _ _ _ _ _ _ _ => none
 | n + 1 => spec_ManagerFault_l4_step (spec_ManagerFault_l4 n)
noncomputable def spec_ManagerFault_l4.ent : LEntry := ⟨sk 1 (.cell (.fix (.ptr 1 0)) :: (sk 1 (.cell (.val .bor (.int .i64)) :: (sk 119 [])))), rk 1 ([.val .bor (.slice R1), .val .bor (.slice R2), .val .bor (.slice R5), .val .bor (.int .i64), .val .bor (.int .i64), .val .bor (.slice R3), .val .bor (.slice R4), .val .bor (.int .i64)] :: (rk 121 [])), [], [], [⟨none, sk 2 (.cell (.val .bor (.int .i64)) :: (sk 120 [])), rk 123 [], [], []⟩, ⟨some 0, sk 1 (.cell (.fix (.ptr 1 0)) :: (sk 121 [])), rk 1 ([.val .bor (.slice R1), .val .bor (.slice R2), .val .bor (.slice R5), .val .bor (.int .i64), .val .bor (.int .i64), .val .bor (.slice R3), .val .bor (.slice R4), .val .bor (.int .i64)] :: (rk 121 [])), [], []⟩], fun v => spec_ManagerFault_l4 K0 v.1 v.2.1 v.2.2.1 v.2.2.2.1 v.2.2.2.2.1 v.2.2.2.2.2.1 v.2.2.2.2.2.2.1 v.2.2.2.2.2.2.2.1 v.2.2.2.2.2.2.2.2.1⟩
theorem spec_ManagerFault_l4.eq : ∀ rec v, evStep spec_ManagerFault.E4 (bodyAt 4 f21) spec_ManagerFault_l4.ent.ins spec_ManagerFault_l4.ent.rts spec_ManagerFault_l4.ent.hm spec_ManagerFault_l4.ent.nl spec_ManagerFault_l4.ent.xs rec v = spec_ManagerFault_l4_step (fun c0 c1 c2 c3 c4 c5 c6 c7 c8 => rec (c0, c1, c2, c3, c4, c5, c6, c7, c8, ())) v.1 v.2.1 v.2.2.1 v.2.2.2.1 v.2.2.2.2.1 v.2.2.2.2.2.1 v.2.2.2.2.2.2.1 v.2.2.2.2.2.2.2.1 v.2.2.2.2.2.2.2.2.1 := by intro rec v; kernel_rfl
noncomputable def spec_ManagerFault.E15 : Env := ⟨D, [], [(10, spec_ClusterFault.ent), (57, spec_l23Job.ent)], [(10, spec_ManagerFault_l10.ent), (4, spec_ManagerFault_l4.ent)]⟩
noncomputable def spec_ManagerFault_l15_step (rec : Int → List V1 → List V2 → List V5 → Int → Int → List V3 → List V4 → Int → Option ((Int × Unit) ⊕ (Unit))) (y0 : Int) (y1 : List V1) (y2 : List V2) (y3 : List V5) (y4 : Int) (y5 : Int) (y6 : List V3) (y7 : List V4) (y8 : Int) : Option ((Int × Unit) ⊕ (Unit)) :=
 let b20 : Bool := decide (y0 < (y7.length : Int))
 bif b20 then
  let e21 : V4 := rd R4 y7 y0
  bif decide (0 ≤ y0) && decide (y0 < (y7.length : Int)) then
   let r22 : Bool × Unit := (spec_l23Job e21.1 e21.2.1 e21.2.2.1 e21.2.2.2.1 e21.2.2.2.2).getD (false, ())
   let b23 : Bool := (!r22.1 || decide (e21.1 < 1))
   let b24 : Bool := (b23 || decide (e21.1 ≥ y8))
   let e25 : V4 := rd R4 y7 (wrap64 (y0 - 1))
   let b26 : Bool := (decide (y0 > 0) && decide (e25.1 ≥ e21.1))
   bif ((spec_l23Job e21.1 e21.2.1 e21.2.2.1 e21.2.2.2.1 e21.2.2.2.2).isSome) && (!(!b24 && decide (y0 > 0)) || (decide (0 ≤ (wrap64 (y0 - 1))) && decide ((wrap64 (y0 - 1)) < (y7.length : Int)))) then
    bif (b24 || b26) then
     some (Sum.inl (1, ()))
    else
     rec (wrap64 (y0 + 1)) y1 y2 y3 y4 y5 y6 y7 y8
   else none
  else none
 else
  some (Sum.inr ())
noncomputable def spec_ManagerFault_l15 : Nat → Int → List V1 → List V2 → List V5 → Int → Int → List V3 → List V4 → Int → Option ((Int × Unit) ⊕ (Unit))
 | 0 => fun _ _ _ _ _ _ _ _ _ => none
 | n + 1 => spec_ManagerFault_l15_step (spec_ManagerFault_l15 n)
noncomputable def spec_ManagerFault_l15.ent : LEntry := ⟨sk 1 (.cell (.fix (.ptr 1 0)) :: (sk 4 (.cell (.val .bor (.int .i64)) :: (sk 116 [])))), rk 1 ([.val .bor (.slice R1), .val .bor (.slice R2), .val .bor (.slice R5), .val .bor (.int .i64), .val .bor (.int .i64), .val .bor (.slice R3), .val .bor (.slice R4), .val .bor (.int .i64)] :: (rk 121 [])), [], [], [⟨none, sk 2 (.cell (.val .bor (.int .i64)) :: (sk 120 [])), rk 123 [], [], []⟩, ⟨some 4, sk 123 [], rk 123 [], [], []⟩], fun v => spec_ManagerFault_l15 K0 v.1 v.2.1 v.2.2.1 v.2.2.2.1 v.2.2.2.2.1 v.2.2.2.2.2.1 v.2.2.2.2.2.2.1 v.2.2.2.2.2.2.2.1 v.2.2.2.2.2.2.2.2.1⟩
theorem spec_ManagerFault_l15.eq : ∀ rec v, evStep spec_ManagerFault.E15 (bodyAt 15 f21) spec_ManagerFault_l15.ent.ins spec_ManagerFault_l15.ent.rts spec_ManagerFault_l15.ent.hm spec_ManagerFault_l15.ent.nl spec_ManagerFault_l15.ent.xs rec v = spec_ManagerFault_l15_step (fun c0 c1 c2 c3 c4 c5 c6 c7 c8 => rec (c0, c1, c2, c3, c4, c5, c6, c7, c8, ())) v.1 v.2.1 v.2.2.1 v.2.2.2.1 v.2.2.2.2.1 v.2.2.2.2.2.1 v.2.2.2.2.2.2.1 v.2.2.2.2.2.2.2.1 v.2.2.2.2.2.2.2.2.1 := by intro rec v; kernel_rfl
noncomputable def spec_ManagerFault.E : Env := ⟨D, [], [(10, spec_ClusterFault.ent), (57, spec_l23Job.ent)], [(10, spec_ManagerFault_l10.ent), (4, spec_ManagerFault_l4.ent), (15, spec_ManagerFault_l15.ent)]⟩
noncomputable def spec_ManagerFault (a0 : List V1) (a1 : List V2) (a2 : List V5) (a3 : Int) (a4 : Int) (a5 : List V3) (a6 : List V4) (a7 : Int) : Option (Int × Unit) :=
 (spec_ClusterFault a0 a1 a2 a3 a4).bind fun r1 =>
 let b2 : Bool := decide ((a5.length : Int) > 20)
 let b3 : Bool := decide ((a6.length : Int) > 20)
 let b4 : Bool := (((r1.1 != 0) || b2) || b3)
 let b5 : Bool := decide (a7 > 1099511627776)
 let b6 : Bool := ((b4 || decide (a7 < 1)) || b5)
 bif b6 then
  some (1, ())
 else
  (spec_ManagerFault_l4 K0 0 a0 a1 a2 a3 a4 a5 a6 a7).bind fun o17 =>
  match o17 with
  | Sum.inl p18 =>
   some (p18.1, ())
  | Sum.inr p19 =>
   (spec_ManagerFault_l15 K0 0 p19.1 p19.2.1 p19.2.2.1 p19.2.2.2.1 p19.2.2.2.2.1 p19.2.2.2.2.2.1 p19.2.2.2.2.2.2.1 p19.2.2.2.2.2.2.2.1).bind fun o27 =>
   match o27 with
   | Sum.inl p28 =>
    some (p28.1, ())
   | Sum.inr p29 =>
    some (0, ())
noncomputable def spec_ManagerFault.ent : Entry := ⟨[false], [.agg [.val .bor (.slice R1), .val .bor (.slice R2), .val .bor (.slice R5), .val .bor (.int .i64), .val .bor (.int .i64), .val .bor (.slice R3), .val .bor (.slice R4), .val .bor (.int .i64)]], [.cell (.val .bor (.int .i64))], [], fun v => spec_ManagerFault v.1 v.2.1 v.2.2.1 v.2.2.2.1 v.2.2.2.2.1 v.2.2.2.2.2.1 v.2.2.2.2.2.2.1 v.2.2.2.2.2.2.2.1⟩
theorem spec_ManagerFault.eq : ∀ v, evFn spec_ManagerFault.E f21 spec_ManagerFault.ent.ptrs spec_ManagerFault.ent.ins spec_ManagerFault.ent.rets spec_ManagerFault.ent.outs v = spec_ManagerFault.ent.f v := by intro v; kernel_rfl
theorem spec_ManagerFault.fok : ∀ q ∈ [((10 : Nat), spec_ClusterFault.ent), ((57 : Nat), spec_l23Job.ent)], EntryOK Pr q.1 q.2 := by
 intro q hq
 simp only [List.mem_cons, List.mem_nil_iff, or_false] at hq
 rcases hq with rfl | rfl
 · exact spec_ClusterFault.ok
 · exact spec_l23Job.ok
theorem spec_ManagerFault_l10.it : ∀ n v, iter (evStep spec_ManagerFault.E10 (bodyAt 10 f21) spec_ManagerFault_l10.ent.ins spec_ManagerFault_l10.ent.rts spec_ManagerFault_l10.ent.hm spec_ManagerFault_l10.ent.nl spec_ManagerFault_l10.ent.xs) n v = spec_ManagerFault_l10 n v.1 v.2.1 v.2.2.1 v.2.2.2.1 v.2.2.2.2.1 v.2.2.2.2.2.1 v.2.2.2.2.2.2.1 v.2.2.2.2.2.2.2.1 v.2.2.2.2.2.2.2.2.1 v.2.2.2.2.2.2.2.2.2.1 v.2.2.2.2.2.2.2.2.2.2.1 v.2.2.2.2.2.2.2.2.2.2.2.1 v.2.2.2.2.2.2.2.2.2.2.2.2.1 := by
 intro n
 induction n with
 | zero => intro v; rfl
 | succ n ih =>
  intro v
  show (evStep spec_ManagerFault.E10 (bodyAt 10 f21) spec_ManagerFault_l10.ent.ins spec_ManagerFault_l10.ent.rts spec_ManagerFault_l10.ent.hm spec_ManagerFault_l10.ent.nl spec_ManagerFault_l10.ent.xs) (iter (evStep spec_ManagerFault.E10 (bodyAt 10 f21) spec_ManagerFault_l10.ent.ins spec_ManagerFault_l10.ent.rts spec_ManagerFault_l10.ent.hm spec_ManagerFault_l10.ent.nl spec_ManagerFault_l10.ent.xs) n) v = _
  rw [spec_ManagerFault_l10.eq, show (fun c0 c1 c2 c3 c4 c5 c6 c7 c8 c9 c10 c11 c12 => iter (evStep spec_ManagerFault.E10 (bodyAt 10 f21) spec_ManagerFault_l10.ent.ins spec_ManagerFault_l10.ent.rts spec_ManagerFault_l10.ent.hm spec_ManagerFault_l10.ent.nl spec_ManagerFault_l10.ent.xs) n (c0, c1, c2, c3, c4, c5, c6, c7, c8, c9, c10, c11, c12, ())) = spec_ManagerFault_l10 n from by funext c0 c1 c2 c3 c4 c5 c6 c7 c8 c9 c10 c11 c12; exact ih _]
  rfl
theorem spec_ManagerFault_l10.fr : firstRegion (bodyAt 10 f21) = 10 := by kernel_rfl
theorem spec_ManagerFault_l10.ls : loopsOf (bodyAt 10 f21) = [] := by kernel_rfl
theorem spec_ManagerFault_l10.lok {E : Env} (hpin : spec_ManagerFault.E10.pin = E.pin) (hfind : find 10 E.loops = some spec_ManagerFault_l10.ent) : LoopOK Pr E (bodyAt 10 f21) :=
 loop_of (E1 := spec_ManagerFault.E10) (EnvOK.of dok spec_ManagerFault.fok) mixed hpin (by rw [spec_ManagerFault_l10.fr]; exact hfind) spec_ManagerFault_l10.ls (by intro l hl; simp at hl) (fun v => (spec_ManagerFault_l10.it K0 v).symm)
theorem spec_ManagerFault_l4.it : ∀ n v, iter (evStep spec_ManagerFault.E4 (bodyAt 4 f21) spec_ManagerFault_l4.ent.ins spec_ManagerFault_l4.ent.rts spec_ManagerFault_l4.ent.hm spec_ManagerFault_l4.ent.nl spec_ManagerFault_l4.ent.xs) n v = spec_ManagerFault_l4 n v.1 v.2.1 v.2.2.1 v.2.2.2.1 v.2.2.2.2.1 v.2.2.2.2.2.1 v.2.2.2.2.2.2.1 v.2.2.2.2.2.2.2.1 v.2.2.2.2.2.2.2.2.1 := by
 intro n
 induction n with
 | zero => intro v; rfl
 | succ n ih =>
  intro v
  show (evStep spec_ManagerFault.E4 (bodyAt 4 f21) spec_ManagerFault_l4.ent.ins spec_ManagerFault_l4.ent.rts spec_ManagerFault_l4.ent.hm spec_ManagerFault_l4.ent.nl spec_ManagerFault_l4.ent.xs) (iter (evStep spec_ManagerFault.E4 (bodyAt 4 f21) spec_ManagerFault_l4.ent.ins spec_ManagerFault_l4.ent.rts spec_ManagerFault_l4.ent.hm spec_ManagerFault_l4.ent.nl spec_ManagerFault_l4.ent.xs) n) v = _
  rw [spec_ManagerFault_l4.eq, show (fun c0 c1 c2 c3 c4 c5 c6 c7 c8 => iter (evStep spec_ManagerFault.E4 (bodyAt 4 f21) spec_ManagerFault_l4.ent.ins spec_ManagerFault_l4.ent.rts spec_ManagerFault_l4.ent.hm spec_ManagerFault_l4.ent.nl spec_ManagerFault_l4.ent.xs) n (c0, c1, c2, c3, c4, c5, c6, c7, c8, ())) = spec_ManagerFault_l4 n from by funext c0 c1 c2 c3 c4 c5 c6 c7 c8; exact ih _]
  rfl
theorem spec_ManagerFault_l4.fr : firstRegion (bodyAt 4 f21) = 4 := by kernel_rfl
theorem spec_ManagerFault_l4.ls : loopsOf (bodyAt 4 f21) = [bodyAt 10 f21] := by kernel_rfl
theorem spec_ManagerFault_l4.lok {E : Env} (hpin : spec_ManagerFault.E4.pin = E.pin) (hfind : find 4 E.loops = some spec_ManagerFault_l4.ent) : LoopOK Pr E (bodyAt 4 f21) :=
 loop_of (E1 := spec_ManagerFault.E4) (EnvOK.of dok spec_ManagerFault.fok) mixed hpin (by rw [spec_ManagerFault_l4.fr]; exact hfind) spec_ManagerFault_l4.ls (by intro l hl; simp only [List.mem_singleton] at hl; subst hl; exact spec_ManagerFault_l10.lok rfl rfl) (fun v => (spec_ManagerFault_l4.it K0 v).symm)
theorem spec_ManagerFault_l15.it : ∀ n v, iter (evStep spec_ManagerFault.E15 (bodyAt 15 f21) spec_ManagerFault_l15.ent.ins spec_ManagerFault_l15.ent.rts spec_ManagerFault_l15.ent.hm spec_ManagerFault_l15.ent.nl spec_ManagerFault_l15.ent.xs) n v = spec_ManagerFault_l15 n v.1 v.2.1 v.2.2.1 v.2.2.2.1 v.2.2.2.2.1 v.2.2.2.2.2.1 v.2.2.2.2.2.2.1 v.2.2.2.2.2.2.2.1 v.2.2.2.2.2.2.2.2.1 := by
 intro n
 induction n with
 | zero => intro v; rfl
 | succ n ih =>
  intro v
  show (evStep spec_ManagerFault.E15 (bodyAt 15 f21) spec_ManagerFault_l15.ent.ins spec_ManagerFault_l15.ent.rts spec_ManagerFault_l15.ent.hm spec_ManagerFault_l15.ent.nl spec_ManagerFault_l15.ent.xs) (iter (evStep spec_ManagerFault.E15 (bodyAt 15 f21) spec_ManagerFault_l15.ent.ins spec_ManagerFault_l15.ent.rts spec_ManagerFault_l15.ent.hm spec_ManagerFault_l15.ent.nl spec_ManagerFault_l15.ent.xs) n) v = _
  rw [spec_ManagerFault_l15.eq, show (fun c0 c1 c2 c3 c4 c5 c6 c7 c8 => iter (evStep spec_ManagerFault.E15 (bodyAt 15 f21) spec_ManagerFault_l15.ent.ins spec_ManagerFault_l15.ent.rts spec_ManagerFault_l15.ent.hm spec_ManagerFault_l15.ent.nl spec_ManagerFault_l15.ent.xs) n (c0, c1, c2, c3, c4, c5, c6, c7, c8, ())) = spec_ManagerFault_l15 n from by funext c0 c1 c2 c3 c4 c5 c6 c7 c8; exact ih _]
  rfl
theorem spec_ManagerFault_l15.fr : firstRegion (bodyAt 15 f21) = 15 := by kernel_rfl
theorem spec_ManagerFault_l15.ls : loopsOf (bodyAt 15 f21) = [] := by kernel_rfl
theorem spec_ManagerFault_l15.lok {E : Env} (hpin : spec_ManagerFault.E15.pin = E.pin) (hfind : find 15 E.loops = some spec_ManagerFault_l15.ent) : LoopOK Pr E (bodyAt 15 f21) :=
 loop_of (E1 := spec_ManagerFault.E15) (EnvOK.of dok spec_ManagerFault.fok) mixed hpin (by rw [spec_ManagerFault_l15.fr]; exact hfind) spec_ManagerFault_l15.ls (by intro l hl; simp at hl) (fun v => (spec_ManagerFault_l15.it K0 v).symm)
theorem spec_ManagerFault.ls : loopsOf (bodyOf f21) = [bodyAt 4 f21, bodyAt 10 f21, bodyAt 15 f21] := by kernel_rfl
theorem spec_ManagerFault.ok : EntryOK Pr 21 spec_ManagerFault.ent :=
 entry_ok (E := spec_ManagerFault.E) (EnvOK.of dok spec_ManagerFault.fok) mixed (fn := f21) (by kernel_rfl) (by kernel_rfl) (by decide) spec_ManagerFault.ls (by
  intro l hl
  simp only [List.mem_cons, List.mem_nil_iff, or_false] at hl
  rcases hl with rfl | rfl | rfl
  · exact spec_ManagerFault_l4.lok rfl rfl
  · exact spec_ManagerFault_l10.lok rfl rfl
  · exact spec_ManagerFault_l15.lok rfl rfl) spec_ManagerFault.eq
/-! ### loop.example/g00038/impl.yin -/
noncomputable def impl_yin.E : Env := ⟨D, [], [], []⟩
noncomputable def impl_yin (a0 : Int) (a1 : Int) (a2 : Int) : Option (Bool × Unit) :=
 let b1 : Bool := (decide (a0 ≥ a1) && decide (a0 ≤ a2))
 some (b1, ())
noncomputable def impl_yin.ent : Entry := ⟨[false, false, false], [.cell (.val .bor (.int .i64)), .cell (.val .bor (.int .i64)), .cell (.val .bor (.int .i64))], [.cell (.val .bor (.bool))], [], fun v => impl_yin v.1 v.2.1 v.2.2.1⟩
theorem impl_yin.eq : ∀ v, evFn impl_yin.E f41 impl_yin.ent.ptrs impl_yin.ent.ins impl_yin.ent.rets impl_yin.ent.outs v = impl_yin.ent.f v := by intro v; kernel_rfl
theorem impl_yin.fok : ∀ q ∈ ([] : List (Nat × Entry)), EntryOK Pr q.1 q.2 := by intro q hq; simp at hq
theorem impl_yin.ls : loopsOf (bodyOf f41) = [] := by kernel_rfl
theorem impl_yin.ok : EntryOK Pr 41 impl_yin.ent :=
 entry_ok (E := impl_yin.E) (EnvOK.of dok impl_yin.fok) mixed (fn := f41) (by kernel_rfl) (by kernel_rfl) (by decide) impl_yin.ls (by intro l hl; simp at hl) impl_yin.eq
/-! ### loop.example/g00038/impl.yisName -/
noncomputable def impl_yisName.E2 : Env := ⟨D, [], [], []⟩
noncomputable def impl_yisName_l2_step (rec : ByteArray → Int → Int → Option ((Bool × Unit) ⊕ (ByteArray × Unit))) (y0 : ByteArray) (y1 : Int) (y2 : Int) : Option ((Bool × Unit) ⊕ (ByteArray × Unit)) :=
 bif decide (y2 < y1) then
  bif decide (0 ≤ y2) && decide (y2 < (y0.size : Int)) then
   let b1 : Bool := (decide (bt y0 y2 ≥ 97) && decide (bt y0 y2 ≤ 122))
   let b2 : Bool := (decide (bt y0 y2 ≥ 48) && decide (bt y0 y2 ≤ 57))
   let b3 : Bool := ((b1 || b2) || (bt y0 y2 == 45))
   bif !b3 then
    some (Sum.inl (false, ()))
   else
    rec y0 y1 (wrap64 (y2 + 1))
  else none
 else
  some (Sum.inr (y0, ()))
noncomputable def impl_yisName_l2 : Nat → ByteArray → Int → Int → Option ((Bool × Unit) ⊕ (ByteArray × Unit))
 | 0 => fun _ _ _ => none
 | n + 1 => impl_yisName_l2_step (impl_yisName_l2 n)
noncomputable def impl_yisName_l2.ent : LEntry := ⟨(.cell (.val .bor (.str)) :: (sk 5 (.cell (.val .bor (.int .i64)) :: (.cell (.val .bor (.int .i64)) :: (sk 33 []))))), rk 41 [], [], [], [⟨none, sk 2 (.cell (.val .bor (.bool)) :: (sk 38 [])), rk 41 [], [], []⟩, ⟨some 0, (.cell (.val .bor (.str)) :: (sk 40 [])), rk 41 [], [], []⟩], fun v => impl_yisName_l2 K0 v.1 v.2.1 v.2.2.1⟩
theorem impl_yisName_l2.eq : ∀ rec v, evStep impl_yisName.E2 (bodyAt 2 f42) impl_yisName_l2.ent.ins impl_yisName_l2.ent.rts impl_yisName_l2.ent.hm impl_yisName_l2.ent.nl impl_yisName_l2.ent.xs rec v = impl_yisName_l2_step (fun c0 c1 c2 => rec (c0, c1, c2, ())) v.1 v.2.1 v.2.2.1 := by intro rec v; kernel_rfl
noncomputable def impl_yisName.E : Env := ⟨D, [], [], [(2, impl_yisName_l2.ent)]⟩
noncomputable def impl_yisName (a0 : ByteArray) : Option (Bool × Unit) :=
 (impl_yisName_l2 K0 a0 (a0.size : Int) 0).bind fun o4 =>
 match o4 with
 | Sum.inl p5 =>
  some (p5.1, ())
 | Sum.inr p6 =>
  let b7 : Bool := decide ((p6.1.size : Int) ≥ 1)
  let b8 : Bool := decide ((p6.1.size : Int) ≤ 20)
  some ((b7 && b8), ())
noncomputable def impl_yisName.ent : Entry := ⟨[false], [.cell (.val .bor (.str))], [.cell (.val .bor (.bool))], [], fun v => impl_yisName v.1⟩
theorem impl_yisName.eq : ∀ v, evFn impl_yisName.E f42 impl_yisName.ent.ptrs impl_yisName.ent.ins impl_yisName.ent.rets impl_yisName.ent.outs v = impl_yisName.ent.f v := by intro v; kernel_rfl
theorem impl_yisName.fok : ∀ q ∈ ([] : List (Nat × Entry)), EntryOK Pr q.1 q.2 := by intro q hq; simp at hq
theorem impl_yisName_l2.it : ∀ n v, iter (evStep impl_yisName.E2 (bodyAt 2 f42) impl_yisName_l2.ent.ins impl_yisName_l2.ent.rts impl_yisName_l2.ent.hm impl_yisName_l2.ent.nl impl_yisName_l2.ent.xs) n v = impl_yisName_l2 n v.1 v.2.1 v.2.2.1 := by
 intro n
 induction n with
 | zero => intro v; rfl
 | succ n ih =>
  intro v
  show (evStep impl_yisName.E2 (bodyAt 2 f42) impl_yisName_l2.ent.ins impl_yisName_l2.ent.rts impl_yisName_l2.ent.hm impl_yisName_l2.ent.nl impl_yisName_l2.ent.xs) (iter (evStep impl_yisName.E2 (bodyAt 2 f42) impl_yisName_l2.ent.ins impl_yisName_l2.ent.rts impl_yisName_l2.ent.hm impl_yisName_l2.ent.nl impl_yisName_l2.ent.xs) n) v = _
  rw [impl_yisName_l2.eq, show (fun c0 c1 c2 => iter (evStep impl_yisName.E2 (bodyAt 2 f42) impl_yisName_l2.ent.ins impl_yisName_l2.ent.rts impl_yisName_l2.ent.hm impl_yisName_l2.ent.nl impl_yisName_l2.ent.xs) n (c0, c1, c2, ())) = impl_yisName_l2 n from by funext c0 c1 c2; exact ih _]
  rfl
theorem impl_yisName_l2.fr : firstRegion (bodyAt 2 f42) = 2 := by kernel_rfl
theorem impl_yisName_l2.ls : loopsOf (bodyAt 2 f42) = [] := by kernel_rfl
theorem impl_yisName_l2.lok {E : Env} (hpin : impl_yisName.E2.pin = E.pin) (hfind : find 2 E.loops = some impl_yisName_l2.ent) : LoopOK Pr E (bodyAt 2 f42) :=
 loop_of (E1 := impl_yisName.E2) (EnvOK.of dok impl_yisName.fok) mixed hpin (by rw [impl_yisName_l2.fr]; exact hfind) impl_yisName_l2.ls (by intro l hl; simp at hl) (fun v => (impl_yisName_l2.it K0 v).symm)
theorem impl_yisName.ls : loopsOf (bodyOf f42) = [bodyAt 2 f42] := by kernel_rfl
theorem impl_yisName.ok : EntryOK Pr 42 impl_yisName.ent :=
 entry_ok (E := impl_yisName.E) (EnvOK.of dok impl_yisName.fok) mixed (fn := f42) (by kernel_rfl) (by kernel_rfl) (by decide) impl_yisName.ls (by intro l hl; simp only [List.mem_singleton] at hl; subst hl; exact impl_yisName_l2.lok rfl rfl) impl_yisName.eq
/-! ### loop.example/g00038/impl.yvmOk -/
noncomputable def impl_yvmOk.E : Env := ⟨D, [], [(42, impl_yisName.ent), (41, impl_yin.ent)], []⟩
noncomputable def impl_yvmOk (a0 : ByteArray) (a1 : Int) (a2 : Int) (a3 : Int) (a4 : Int) (a5 : Int) (a6 : ByteArray) (a7 : Int) (a8 : Int) : Option (Bool × Unit) :=
 (impl_yisName a0).bind fun r1 =>
 let r2 : Bool × Unit := (impl_yin a2 1 64).getD (false, ())
 let r3 : Bool × Unit := (impl_yin a3 1 1000).getD (false, ())
 let r4 : Bool × Unit := (impl_yin a4 0 20).getD (false, ())
 let b5 : Bool := (((r1.1 && r2.1) && r3.1) && r4.1)
 let r6 : Bool × Unit := (impl_yin a5 0 20).getD (false, ())
 let r7 : Bool × Unit := (impl_yin a1 0 (wrap64 (a8 - 1))).getD (false, ())
 bif (!r1.1 || ((impl_yin a2 1 64).isSome)) && ((!(r1.1 && r2.1) || ((impl_yin a3 1 1000).isSome)) && ((!((r1.1 && r2.1) && r3.1) || ((impl_yin a4 0 20).isSome)) && ((!b5 || ((impl_yin a5 0 20).isSome)) && (!(b5 && r6.1) || ((impl_yin a1 0 (wrap64 (a8 - 1))).isSome))))) then
  some (((b5 && r6.1) && r7.1), ())
 else none
noncomputable def impl_yvmOk.ent : Entry := ⟨[false, false], [.agg [.val .bor (.str), .val .bor (.int .i64), .val .bor (.int .i64), .val .bor (.int .i64), .val .bor (.int .i64), .val .bor (.int .i64), .val .bor (.str), .val .bor (.int .i64)], .cell (.val .bor (.int .i64))], [.cell (.val .bor (.bool))], [], fun v => impl_yvmOk v.1 v.2.1 v.2.2.1 v.2.2.2.1 v.2.2.2.2.1 v.2.2.2.2.2.1 v.2.2.2.2.2.2.1 v.2.2.2.2.2.2.2.1 v.2.2.2.2.2.2.2.2.1⟩
theorem impl_yvmOk.eq : ∀ v, evFn impl_yvmOk.E f43 impl_yvmOk.ent.ptrs impl_yvmOk.ent.ins impl_yvmOk.ent.rets impl_yvmOk.ent.outs v = impl_yvmOk.ent.f v := by intro v; kernel_rfl
theorem impl_yvmOk.fok : ∀ q ∈ [((42 : Nat), impl_yisName.ent), ((41 : Nat), impl_yin.ent)], EntryOK Pr q.1 q.2 := by
 intro q hq
 simp only [List.mem_cons, List.mem_nil_iff, or_false] at hq
 rcases hq with rfl | rfl
 · exact impl_yisName.ok
 · exact impl_yin.ok
theorem impl_yvmOk.ls : loopsOf (bodyOf f43) = [] := by kernel_rfl
theorem impl_yvmOk.ok : EntryOK Pr 43 impl_yvmOk.ent :=
 entry_ok (E := impl_yvmOk.E) (EnvOK.of dok impl_yvmOk.fok) mixed (fn := f43) (by kernel_rfl) (by kernel_rfl) (by decide) impl_yvmOk.ls (by intro l hl; simp at hl) impl_yvmOk.eq
/-! ### (loop.example/g00038/impl.Cluster).ynode$1 -/
noncomputable def impl_Cluster_ynode_1.E : Env := ⟨D, [], [], []⟩
noncomputable def impl_Cluster_ynode_1 (a0 : ByteArray) (a1 : Int) (a2 : Int) (a3 : Int) (a4 : Int) (a5 : Bool) (a6 : Bool) (a7 : ByteArray) : Option (Bool × Unit) :=
 some (seq a0 a7, ())
noncomputable def impl_Cluster_ynode_1.ent : Entry := ⟨[false, false], [.agg [.val .bor (.str), .val .bor (.int .i64), .val .bor (.int .i64), .val .bor (.int .i64), .val .bor (.int .i64), .val .bor (.bool), .val .bor (.bool)], .rop [.val .bor (.str)]], [.cell (.val .bor (.bool))], [], fun v => impl_Cluster_ynode_1 v.1 v.2.1 v.2.2.1 v.2.2.2.1 v.2.2.2.2.1 v.2.2.2.2.2.1 v.2.2.2.2.2.2.1 v.2.2.2.2.2.2.2.1⟩
theorem impl_Cluster_ynode_1.eq : ∀ v, evFn impl_Cluster_ynode_1.E f78 impl_Cluster_ynode_1.ent.ptrs impl_Cluster_ynode_1.ent.ins impl_Cluster_ynode_1.ent.rets impl_Cluster_ynode_1.ent.outs v = impl_Cluster_ynode_1.ent.f v := by intro v; kernel_rfl
theorem impl_Cluster_ynode_1.fok : ∀ q ∈ ([] : List (Nat × Entry)), EntryOK Pr q.1 q.2 := by intro q hq; simp at hq
theorem impl_Cluster_ynode_1.ls : loopsOf (bodyOf f78) = [] := by kernel_rfl
theorem impl_Cluster_ynode_1.ok : EntryOK Pr 78 impl_Cluster_ynode_1.ent :=
 entry_ok (E := impl_Cluster_ynode_1.E) (EnvOK.of dok impl_Cluster_ynode_1.fok) mixed (fn := f78) (by kernel_rfl) (by kernel_rfl) (by decide) impl_Cluster_ynode_1.ls (by intro l hl; simp at hl) impl_Cluster_ynode_1.eq
/-! ### slices.IndexFunc[[]loop.example/g00038/impl.Node,loop.example/g00038/impl.Node] -/
noncomputable def slices_IndexFunc_Node.E2 : Env := ⟨D, [], [(78, impl_Cluster_ynode_1.ent)], []⟩
noncomputable def slices_IndexFunc_Node_l2_step (rec : List V1 → ByteArray → Int → Int → Option ((Int × Unit) ⊕ (Unit))) (y0 : List V1) (y1 : ByteArray) (y2 : Int) (y3 : Int) : Option ((Int × Unit) ⊕ (Unit)) :=
 bif decide (y3 < y2) then
  let e1 : V1 := rd R1 y0 y3
  (impl_Cluster_ynode_1 e1.1 e1.2.1 e1.2.2.1 e1.2.2.2.1 e1.2.2.2.2.1 e1.2.2.2.2.2.1 e1.2.2.2.2.2.2 y1).bind fun r2 =>
  bif decide (0 ≤ y3) && decide (y3 < (y0.length : Int)) then
   bif r2.1 then
    some (Sum.inl (y3, ()))
   else
    rec y0 y1 y2 (wrap64 (y3 + 1))
  else none
 else
  some (Sum.inr ())
noncomputable def slices_IndexFunc_Node_l2 : Nat → List V1 → ByteArray → Int → Int → Option ((Int × Unit) ⊕ (Unit))
 | 0 => fun _ _ _ _ => none
 | n + 1 => slices_IndexFunc_Node_l2_step (slices_IndexFunc_Node_l2 n)
noncomputable def slices_IndexFunc_Node_l2.ent : LEntry := ⟨(.cell (.val .bor (.slice R1)) :: (.clo 78 [[.val .bor (.str)]] :: (sk 5 (.cell (.val .bor (.int .i64)) :: (.cell (.val .bor (.int .i64)) :: (sk 10 [])))))), rk 19 [], [], [], [⟨none, sk 4 (.cell (.val .bor (.int .i64)) :: (sk 14 [])), rk 19 [], [], []⟩, ⟨some 0, sk 19 [], rk 19 [], [], []⟩], fun v => slices_IndexFunc_Node_l2 K0 v.1 v.2.1 v.2.2.1 v.2.2.2.1⟩
theorem slices_IndexFunc_Node_l2.eq : ∀ rec v, evStep slices_IndexFunc_Node.E2 (bodyAt 2 f77) slices_IndexFunc_Node_l2.ent.ins slices_IndexFunc_Node_l2.ent.rts slices_IndexFunc_Node_l2.ent.hm slices_IndexFunc_Node_l2.ent.nl slices_IndexFunc_Node_l2.ent.xs rec v = slices_IndexFunc_Node_l2_step (fun c0 c1 c2 c3 => rec (c0, c1, c2, c3, ())) v.1 v.2.1 v.2.2.1 v.2.2.2.1 := by intro rec v; kernel_rfl
noncomputable def slices_IndexFunc_Node.E : Env := ⟨D, [], [(78, impl_Cluster_ynode_1.ent)], [(2, slices_IndexFunc_Node_l2.ent)]⟩
noncomputable def slices_IndexFunc_Node (a0 : List V1) (a1 : ByteArray) : Option (Int × Unit) :=
 (slices_IndexFunc_Node_l2 K0 a0 a1 (a0.length : Int) 0).bind fun o3 =>
 match o3 with
 | Sum.inl p4 =>
  some (p4.1, ())
 | Sum.inr p5 =>
  some (-1, ())
noncomputable def slices_IndexFunc_Node.ent : Entry := ⟨[false, false], [.cell (.val .bor (.slice R1)), .clo 78 [[.val .bor (.str)]]], [.cell (.val .bor (.int .i64))], [], fun v => slices_IndexFunc_Node v.1 v.2.1⟩
theorem slices_IndexFunc_Node.eq : ∀ v, evFn slices_IndexFunc_Node.E f77 slices_IndexFunc_Node.ent.ptrs slices_IndexFunc_Node.ent.ins slices_IndexFunc_Node.ent.rets slices_IndexFunc_Node.ent.outs v = slices_IndexFunc_Node.ent.f v := by intro v; kernel_rfl
theorem slices_IndexFunc_Node.fok : ∀ q ∈ [((78 : Nat), impl_Cluster_ynode_1.ent)], EntryOK Pr q.1 q.2 := by
 intro q hq
 simp only [List.mem_cons, List.mem_nil_iff, or_false] at hq
 rcases hq with rfl
 · exact impl_Cluster_ynode_1.ok
theorem slices_IndexFunc_Node_l2.it : ∀ n v, iter (evStep slices_IndexFunc_Node.E2 (bodyAt 2 f77) slices_IndexFunc_Node_l2.ent.ins slices_IndexFunc_Node_l2.ent.rts slices_IndexFunc_Node_l2.ent.hm slices_IndexFunc_Node_l2.ent.nl slices_IndexFunc_Node_l2.ent.xs) n v = slices_IndexFunc_Node_l2 n v.1 v.2.1 v.2.2.1 v.2.2.2.1 := by
 intro n
 induction n with
 | zero => intro v; rfl
 | succ n ih =>
  intro v
  show (evStep slices_IndexFunc_Node.E2 (bodyAt 2 f77) slices_IndexFunc_Node_l2.ent.ins slices_IndexFunc_Node_l2.ent.rts slices_IndexFunc_Node_l2.ent.hm slices_IndexFunc_Node_l2.ent.nl slices_IndexFunc_Node_l2.ent.xs) (iter (evStep slices_IndexFunc_Node.E2 (bodyAt 2 f77) slices_IndexFunc_Node_l2.ent.ins slices_IndexFunc_Node_l2.ent.rts slices_IndexFunc_Node_l2.ent.hm slices_IndexFunc_Node_l2.ent.nl slices_IndexFunc_Node_l2.ent.xs) n) v = _
  rw [slices_IndexFunc_Node_l2.eq, show (fun c0 c1 c2 c3 => iter (evStep slices_IndexFunc_Node.E2 (bodyAt 2 f77) slices_IndexFunc_Node_l2.ent.ins slices_IndexFunc_Node_l2.ent.rts slices_IndexFunc_Node_l2.ent.hm slices_IndexFunc_Node_l2.ent.nl slices_IndexFunc_Node_l2.ent.xs) n (c0, c1, c2, c3, ())) = slices_IndexFunc_Node_l2 n from by funext c0 c1 c2 c3; exact ih _]
  rfl
theorem slices_IndexFunc_Node_l2.fr : firstRegion (bodyAt 2 f77) = 2 := by kernel_rfl
theorem slices_IndexFunc_Node_l2.ls : loopsOf (bodyAt 2 f77) = [] := by kernel_rfl
theorem slices_IndexFunc_Node_l2.lok {E : Env} (hpin : slices_IndexFunc_Node.E2.pin = E.pin) (hfind : find 2 E.loops = some slices_IndexFunc_Node_l2.ent) : LoopOK Pr E (bodyAt 2 f77) :=
 loop_of (E1 := slices_IndexFunc_Node.E2) (EnvOK.of dok slices_IndexFunc_Node.fok) mixed hpin (by rw [slices_IndexFunc_Node_l2.fr]; exact hfind) slices_IndexFunc_Node_l2.ls (by intro l hl; simp at hl) (fun v => (slices_IndexFunc_Node_l2.it K0 v).symm)
theorem slices_IndexFunc_Node.ls : loopsOf (bodyOf f77) = [bodyAt 2 f77] := by kernel_rfl
theorem slices_IndexFunc_Node.ok : EntryOK Pr 77 slices_IndexFunc_Node.ent :=
 entry_ok (E := slices_IndexFunc_Node.E) (EnvOK.of dok slices_IndexFunc_Node.fok) mixed (fn := f77) (by kernel_rfl) (by kernel_rfl) (by decide) slices_IndexFunc_Node.ls (by intro l hl; simp only [List.mem_singleton] at hl; subst hl; exact slices_IndexFunc_Node_l2.lok rfl rfl) slices_IndexFunc_Node.eq
/-! ### (loop.example/g00038/impl.Cluster).ynode -/
noncomputable def impl_Cluster_ynode.E : Env := ⟨D, [], [(77, slices_IndexFunc_Node.ent)], []⟩
noncomputable def impl_Cluster_ynode (a0 : List V1) (a1 : List V2) (a2 : List V5) (a3 : Int) (a4 : Int) (a5 : ByteArray) : Option (Int × Unit) :=
 (slices_IndexFunc_Node a0 a5).bind fun r1 =>
 some (r1.1, ())
noncomputable def impl_Cluster_ynode.ent : Entry := ⟨[false, false], [.agg [.val .bor (.slice R1), .val .bor (.slice R2), .val .bor (.slice R5), .val .bor (.int .i64), .val .bor (.int .i64)], .cell (.val .bor (.str))], [.cell (.val .bor (.int .i64))], [], fun v => impl_Cluster_ynode v.1 v.2.1 v.2.2.1 v.2.2.2.1 v.2.2.2.2.1 v.2.2.2.2.2.1⟩
theorem impl_Cluster_ynode.eq : ∀ v, evFn impl_Cluster_ynode.E f44 impl_Cluster_ynode.ent.ptrs impl_Cluster_ynode.ent.ins impl_Cluster_ynode.ent.rets impl_Cluster_ynode.ent.outs v = impl_Cluster_ynode.ent.f v := by intro v; kernel_rfl
theorem impl_Cluster_ynode.fok : ∀ q ∈ [((77 : Nat), slices_IndexFunc_Node.ent)], EntryOK Pr q.1 q.2 := by
 intro q hq
 simp only [List.mem_cons, List.mem_nil_iff, or_false] at hq
 rcases hq with rfl
 · exact slices_IndexFunc_Node.ok
theorem impl_Cluster_ynode.ls : loopsOf (bodyOf f44) = [] := by kernel_rfl
theorem impl_Cluster_ynode.ok : EntryOK Pr 44 impl_Cluster_ynode.ent :=
 entry_ok (E := impl_Cluster_ynode.E) (EnvOK.of dok impl_Cluster_ynode.fok) mixed (fn := f44) (by kernel_rfl) (by kernel_rfl) (by decide) impl_Cluster_ynode.ls (by intro l hl; simp at hl) impl_Cluster_ynode.eq
/-! ### (loop.example/g00038/impl.Cluster).yothers -/
noncomputable def impl_Cluster_yothers.E3 : Env := ⟨D, [], [], []⟩
noncomputable def impl_Cluster_yothers_l3_step (rec : ByteArray → ByteArray → List V2 → Int → Int → List V2 → Option ((List V2 × Unit))) (y0 : ByteArray) (y1 : ByteArray) (y2 : List V2) (y3 : Int) (y4 : Int) (y5 : List V2) : Option ((List V2 × Unit)) :=
 bif decide (y4 < y3) then
  let e16 : V2 := rd R2 y2 y4
  bif decide (0 ≤ y4) && decide (y4 < (y2.length : Int)) then
   let b17 : Bool := (seq e16.2.2.2.2.2.2.1 y0 && !seq e16.1 y1)
   let s18 : ByteArray := (bif b17 then y0 else y0)
   let s19 : ByteArray := (bif b17 then y1 else y1)
   let l20 : List V2 := (bif b17 then y2 else y2)
   let x21 : Int := (bif b17 then y3 else y3)
   let x22 : Int := (bif b17 then y4 else y4)
   let l35 : List V2 := (bif b17 then (y5 ++ [e16]) else y5)
   bif (!b17 || (roomy ((y5.length : Int) + ([e16].length : Int)) 80)) then
    rec s18 s19 l20 x21 (wrap64 (x22 + 1)) l35
   else none
  else none
 else
  some (y5, ())
noncomputable def impl_Cluster_yothers_l3 : Nat → ByteArray → ByteArray → List V2 → Int → Int → List V2 → Option ((List V2 × Unit))
 | 0 => fun _ _ _ _ _ _ => none
 | n + 1 => impl_Cluster_yothers_l3_step (impl_Cluster_yothers_l3 n)
noncomputable def impl_Cluster_yothers_l3.ent : LEntry := ⟨sk 1 (.cell (.val .bor (.str)) :: (.cell (.val .bor (.str)) :: (sk 4 (.cell (.fix (.view 7 0)) :: (sk 3 (.cell (.val .bor (.slice R2)) :: (.cell (.val .bor (.int .i64)) :: (.cell (.val .bor (.int .i64)) :: (sk 19 []))))))))), rk 7 ([.val .own (.slice R2)] :: (rk 25 [])), [(7, true, .pair (.str) (.pair (.int .i64) (.pair (.int .i64) (.pair (.int .i64) (.pair (.int .i64) (.pair (.int .i64) (.pair (.str) (.int .i64))))))))], [], [⟨some 0, sk 7 (.cell (.fix (.view 7 0)) :: (sk 25 [])), rk 7 ([.val .own (.slice R2)] :: (rk 25 [])), [], []⟩], fun v => impl_Cluster_yothers_l3 K0 v.1 v.2.1 v.2.2.1 v.2.2.2.1 v.2.2.2.2.1 v.2.2.2.2.2.1⟩
theorem impl_Cluster_yothers_l3.eq : ∀ rec v, evStep impl_Cluster_yothers.E3 (bodyAt 3 f79) impl_Cluster_yothers_l3.ent.ins impl_Cluster_yothers_l3.ent.rts impl_Cluster_yothers_l3.ent.hm impl_Cluster_yothers_l3.ent.nl impl_Cluster_yothers_l3.ent.xs rec v = impl_Cluster_yothers_l3_step (fun c0 c1 c2 c3 c4 c5 => rec (c0, c1, c2, c3, c4, c5, ())) v.1 v.2.1 v.2.2.1 v.2.2.2.1 v.2.2.2.2.1 v.2.2.2.2.2.1 := by intro rec v; kernel_rfl
noncomputable def impl_Cluster_yothers.E : Env := ⟨D, [], [], [(3, impl_Cluster_yothers_l3.ent)]⟩
noncomputable def impl_Cluster_yothers (a0 : List V1) (a1 : List V2) (a2 : List V5) (a3 : Int) (a4 : Int) (a5 : ByteArray) (a6 : ByteArray) : Option (List V2 × Unit) :=
 (impl_Cluster_yothers_l3 K0 a5 a6 a1 (a1.length : Int) 0 []).bind fun o36 =>
 some (o36.1, ())
noncomputable def impl_Cluster_yothers.ent : Entry := ⟨[false, false, false], [.agg [.val .bor (.slice R1), .val .bor (.slice R2), .val .bor (.slice R5), .val .bor (.int .i64), .val .bor (.int .i64)], .cell (.val .bor (.str)), .cell (.val .bor (.str))], [.cell (.val .own (.slice R2))], [], fun v => impl_Cluster_yothers v.1 v.2.1 v.2.2.1 v.2.2.2.1 v.2.2.2.2.1 v.2.2.2.2.2.1 v.2.2.2.2.2.2.1⟩
theorem impl_Cluster_yothers.eq : ∀ v, evFn impl_Cluster_yothers.E f79 impl_Cluster_yothers.ent.ptrs impl_Cluster_yothers.ent.ins impl_Cluster_yothers.ent.rets impl_Cluster_yothers.ent.outs v = impl_Cluster_yothers.ent.f v := by intro v; kernel_rfl
theorem impl_Cluster_yothers.fok : ∀ q ∈ ([] : List (Nat × Entry)), EntryOK Pr q.1 q.2 := by intro q hq; simp at hq
theorem impl_Cluster_yothers_l3.it : ∀ n v, iter (evStep impl_Cluster_yothers.E3 (bodyAt 3 f79) impl_Cluster_yothers_l3.ent.ins impl_Cluster_yothers_l3.ent.rts impl_Cluster_yothers_l3.ent.hm impl_Cluster_yothers_l3.ent.nl impl_Cluster_yothers_l3.ent.xs) n v = impl_Cluster_yothers_l3 n v.1 v.2.1 v.2.2.1 v.2.2.2.1 v.2.2.2.2.1 v.2.2.2.2.2.1 := by
 intro n
 induction n with
 | zero => intro v; rfl
 | succ n ih =>
  intro v
  show (evStep impl_Cluster_yothers.E3 (bodyAt 3 f79) impl_Cluster_yothers_l3.ent.ins impl_Cluster_yothers_l3.ent.rts impl_Cluster_yothers_l3.ent.hm impl_Cluster_yothers_l3.ent.nl impl_Cluster_yothers_l3.ent.xs) (iter (evStep impl_Cluster_yothers.E3 (bodyAt 3 f79) impl_Cluster_yothers_l3.ent.ins impl_Cluster_yothers_l3.ent.rts impl_Cluster_yothers_l3.ent.hm impl_Cluster_yothers_l3.ent.nl impl_Cluster_yothers_l3.ent.xs) n) v = _
  rw [impl_Cluster_yothers_l3.eq, show (fun c0 c1 c2 c3 c4 c5 => iter (evStep impl_Cluster_yothers.E3 (bodyAt 3 f79) impl_Cluster_yothers_l3.ent.ins impl_Cluster_yothers_l3.ent.rts impl_Cluster_yothers_l3.ent.hm impl_Cluster_yothers_l3.ent.nl impl_Cluster_yothers_l3.ent.xs) n (c0, c1, c2, c3, c4, c5, ())) = impl_Cluster_yothers_l3 n from by funext c0 c1 c2 c3 c4 c5; exact ih _]
  rfl
theorem impl_Cluster_yothers_l3.fr : firstRegion (bodyAt 3 f79) = 3 := by kernel_rfl
theorem impl_Cluster_yothers_l3.ls : loopsOf (bodyAt 3 f79) = [] := by kernel_rfl
theorem impl_Cluster_yothers_l3.lok {E : Env} (hpin : impl_Cluster_yothers.E3.pin = E.pin) (hfind : find 3 E.loops = some impl_Cluster_yothers_l3.ent) : LoopOK Pr E (bodyAt 3 f79) :=
 loop_of (E1 := impl_Cluster_yothers.E3) (EnvOK.of dok impl_Cluster_yothers.fok) mixed hpin (by rw [impl_Cluster_yothers_l3.fr]; exact hfind) impl_Cluster_yothers_l3.ls (by intro l hl; simp at hl) (fun v => (impl_Cluster_yothers_l3.it K0 v).symm)
theorem impl_Cluster_yothers.ls : loopsOf (bodyOf f79) = [bodyAt 3 f79] := by kernel_rfl
theorem impl_Cluster_yothers.ok : EntryOK Pr 79 impl_Cluster_yothers.ent :=
 entry_ok (E := impl_Cluster_yothers.E) (EnvOK.of dok impl_Cluster_yothers.fok) mixed (fn := f79) (by kernel_rfl) (by kernel_rfl) (by decide) impl_Cluster_yothers.ls (by intro l hl; simp only [List.mem_singleton] at hl; subst hl; exact impl_Cluster_yothers_l3.lok rfl rfl) impl_Cluster_yothers.eq
/-! ### (loop.example/g00038/impl.Cluster).yholds -/
noncomputable def impl_Cluster_yholds.E5 : Env := ⟨D, [], [(79, impl_Cluster_yothers.ent)], []⟩
noncomputable def impl_Cluster_yholds_l5_step (rec : Int → Int → Int → Int → List V1 → List V2 → List V5 → Int → Int → ByteArray → Int → Int → Int → Int → Bool → Bool → ByteArray → Int → Int → Int → Int → Int → ByteArray → Int → List V2 → Option ((Int × Unit) ⊕ (Int × Int × List V1 × List V2 × List V5 × Int × Int × ByteArray × Int × Int × Int × Int × Bool × Bool × Unit))) (y0 : Int) (y1 : Int) (y2 : Int) (y3 : Int) (y4 : List V1) (y5 : List V2) (y6 : List V5) (y7 : Int) (y8 : Int) (y9 : ByteArray) (y10 : Int) (y11 : Int) (y12 : Int) (y13 : Int) (y14 : Bool) (y15 : Bool) (y16 : ByteArray) (y17 : Int) (y18 : Int) (y19 : Int) (y20 : Int) (y21 : Int) (y22 : ByteArray) (y23 : Int) (y24 : List V2) : Option ((Int × Unit) ⊕ (Int × Int × List V1 × List V2 × List V5 × Int × Int × ByteArray × Int × Int × Int × Int × Bool × Bool × Unit)) :=
 bif decide (y3 < y2) then
  let e3 : V2 := rd R2 y24 y3
  bif decide (0 ≤ y3) && decide (y3 < (y24.length : Int)) then
   let b4 : Bool := ((y21 != 0) && (e3.2.1 == y17))
   let b5 : Bool := (b4 && (e3.2.2.2.2.2.1 == y21))
   bif b5 then
    some (Sum.inl (9, ()))
   else
    let x6 : Int := (wrap64 (y1 + e3.2.2.2.1))
    rec (wrap64 (y0 + e3.2.2.1)) x6 y2 (wrap64 (y3 + 1)) y4 y5 y6 y7 y8 y9 y10 y11 y12 y13 y14 y15 y16 y17 y18 y19 y20 y21 y22 y23 y24
  else none
 else
  some (Sum.inr (y0, y1, y4, y5, y6, y7, y8, y9, y10, y11, y12, y13, y14, y15, ()))
noncomputable def impl_Cluster_yholds_l5 : Nat → Int → Int → Int → Int → List V1 → List V2 → List V5 → Int → Int → ByteArray → Int → Int → Int → Int → Bool → Bool → ByteArray → Int → Int → Int → Int → Int → ByteArray → Int → List V2 → Option ((Int × Unit) ⊕ (Int × Int × List V1 × List V2 × List V5 × Int × Int × ByteArray × Int × Int × Int × Int × Bool × Bool × Unit))
 | 0 => fun _ _ _ _ _ _ _ _ _ _ _ _ _ _ _ _ _ _ _ _ _ _ _ _ _ => none
 | n + 1 => impl_Cluster_yholds_l5_step (impl_Cluster_yholds_l5 n)
noncomputable def impl_Cluster_yholds_l5.ent : LEntry := ⟨sk 3 (.cell (.fix (.ptr 3 0)) :: (.cell (.fix (.ptr 4 0)) :: (.cell (.fix (.ptr 5 0)) :: (sk 1 (.cell (.val .bor (.int .i64)) :: (.cell (.val .bor (.int .i64)) :: (sk 21 (.cell (.fix (.view 30 0)) :: (.cell (.val .bor (.int .i64)) :: (.cell (.val .bor (.int .i64)) :: (sk 41 []))))))))))), rk 3 ([.val .bor (.slice R1), .val .bor (.slice R2), .val .bor (.slice R5), .val .bor (.int .i64), .val .bor (.int .i64)] :: ([.val .bor (.str), .val .bor (.int .i64), .val .bor (.int .i64), .val .bor (.int .i64), .val .bor (.int .i64), .val .bor (.bool), .val .bor (.bool)] :: ([.val .bor (.str), .val .bor (.int .i64), .val .bor (.int .i64), .val .bor (.int .i64), .val .bor (.int .i64), .val .bor (.int .i64), .val .bor (.str), .val .bor (.int .i64)] :: (rk 24 ([.val .own (.slice R2)] :: (rk 43 [])))))), [], [], [⟨none, sk 6 (.cell (.val .bor (.int .i64)) :: (sk 67 [])), rk 74 [], [], []⟩, ⟨some 0, sk 3 (.cell (.fix (.ptr 3 0)) :: (.cell (.fix (.ptr 4 0)) :: (sk 2 (.cell (.val .bor (.int .i64)) :: (.cell (.val .bor (.int .i64)) :: (sk 65 [])))))), rk 3 ([.val .bor (.slice R1), .val .bor (.slice R2), .val .bor (.slice R5), .val .bor (.int .i64), .val .bor (.int .i64)] :: ([.val .bor (.str), .val .bor (.int .i64), .val .bor (.int .i64), .val .bor (.int .i64), .val .bor (.int .i64), .val .bor (.bool), .val .bor (.bool)] :: (rk 69 []))), [], []⟩], fun v => impl_Cluster_yholds_l5 K0 v.1 v.2.1 v.2.2.1 v.2.2.2.1 v.2.2.2.2.1 v.2.2.2.2.2.1 v.2.2.2.2.2.2.1 v.2.2.2.2.2.2.2.1 v.2.2.2.2.2.2.2.2.1 v.2.2.2.2.2.2.2.2.2.1 v.2.2.2.2.2.2.2.2.2.2.1 v.2.2.2.2.2.2.2.2.2.2.2.1 v.2.2.2.2.2.2.2.2.2.2.2.2.1 v.2.2.2.2.2.2.2.2.2.2.2.2.2.1 v.2.2.2.2.2.2.2.2.2.2.2.2.2.2.1 v.2.2.2.2.2.2.2.2.2.2.2.2.2.2.2.1 v.2.2.2.2.2.2.2.2.2.2.2.2.2.2.2.2.1 v.2.2.2.2.2.2.2.2.2.2.2.2.2.2.2.2.2.1 v.2.2.2.2.2.2.2.2.2.2.2.2.2.2.2.2.2.2.1 v.2.2.2.2.2.2.2.2.2.2.2.2.2.2.2.2.2.2.2.1 v.2.2.2.2.2.2.2.2.2.2.2.2.2.2.2.2.2.2.2.2.1 v.2.2.2.2.2.2.2.2.2.2.2.2.2.2.2.2.2.2.2.2.2.1 v.2.2.2.2.2.2.2.2.2.2.2.2.2.2.2.2.2.2.2.2.2.2.1 v.2.2.2.2.2.2.2.2.2.2.2.2.2.2.2.2.2.2.2.2.2.2.2.1 v.2.2.2.2.2.2.2.2.2.2.2.2.2.2.2.2.2.2.2.2.2.2.2.2.1⟩
theorem impl_Cluster_yholds_l5.eq : ∀ rec v, evStep impl_Cluster_yholds.E5 (bodyAt 5 f45) impl_Cluster_yholds_l5.ent.ins impl_Cluster_yholds_l5.ent.rts impl_Cluster_yholds_l5.ent.hm impl_Cluster_yholds_l5.ent.nl impl_Cluster_yholds_l5.ent.xs rec v = impl_Cluster_yholds_l5_step (fun c0 c1 c2 c3 c4 c5 c6 c7 c8 c9 c10 c11 c12 c13 c14 c15 c16 c17 c18 c19 c20 c21 c22 c23 c24 => rec (c0, c1, c2, c3, c4, c5, c6, c7, c8, c9, c10, c11, c12, c13, c14, c15, c16, c17, c18, c19, c20, c21, c22, c23, c24, ())) v.1 v.2.1 v.2.2.1 v.2.2.2.1 v.2.2.2.2.1 v.2.2.2.2.2.1 v.2.2.2.2.2.2.1 v.2.2.2.2.2.2.2.1 v.2.2.2.2.2.2.2.2.1 v.2.2.2.2.2.2.2.2.2.1 v.2.2.2.2.2.2.2.2.2.2.1 v.2.2.2.2.2.2.2.2.2.2.2.1 v.2.2.2.2.2.2.2.2.2.2.2.2.1 v.2.2.2.2.2.2.2.2.2.2.2.2.2.1 v.2.2.2.2.2.2.2.2.2.2.2.2.2.2.1 v.2.2.2.2.2.2.2.2.2.2.2.2.2.2.2.1 v.2.2.2.2.2.2.2.2.2.2.2.2.2.2.2.2.1 v.2.2.2.2.2.2.2.2.2.2.2.2.2.2.2.2.2.1 v.2.2.2.2.2.2.2.2.2.2.2.2.2.2.2.2.2.2.1 v.2.2.2.2.2.2.2.2.2.2.2.2.2.2.2.2.2.2.2.1 v.2.2.2.2.2.2.2.2.2.2.2.2.2.2.2.2.2.2.2.2.1 v.2.2.2.2.2.2.2.2.2.2.2.2.2.2.2.2.2.2.2.2.2.1 v.2.2.2.2.2.2.2.2.2.2.2.2.2.2.2.2.2.2.2.2.2.2.1 v.2.2.2.2.2.2.2.2.2.2.2.2.2.2.2.2.2.2.2.2.2.2.2.1 v.2.2.2.2.2.2.2.2.2.2.2.2.2.2.2.2.2.2.2.2.2.2.2.2.1 := by intro rec v; kernel_rfl
noncomputable def impl_Cluster_yholds.E : Env := ⟨D, [], [(79, impl_Cluster_yothers.ent)], [(5, impl_Cluster_yholds_l5.ent)]⟩
noncomputable def impl_Cluster_yholds (a0 : List V1) (a1 : List V2) (a2 : List V5) (a3 : Int) (a4 : Int) (a5 : ByteArray) (a6 : Int) (a7 : Int) (a8 : Int) (a9 : Int) (a10 : Bool) (a11 : Bool) (a12 : ByteArray) (a13 : Int) (a14 : Int) (a15 : Int) (a16 : Int) (a17 : Int) (a18 : ByteArray) (a19 : Int) : Option (Int × Unit) :=
 let b1 : Bool := ((a16 != 0) && (a16 != a8))
 bif b1 then
  some (7, ())
 else
  (impl_Cluster_yothers a0 a1 a2 a3 a4 a5 a12).bind fun r2 =>
  (impl_Cluster_yholds_l5 K0 a14 a15 (r2.1.length : Int) 0 a0 a1 a2 a3 a4 a5 a6 a7 a8 a9 a10 a11 a12 a13 a14 a15 a16 a17 a18 a19 r2.1).bind fun o7 =>
  match o7 with
  | Sum.inl p8 =>
   some (p8.1, ())
  | Sum.inr p9 =>
   let b10 : Bool := decide (p9.2.1 > p9.2.2.2.2.2.2.2.2.2.1)
   bif b10 then
    some (2, ())
   else
    let x11 : Int := (wrap64 (p9.2.2.2.2.2.2.2.2.1 * p9.2.2.2.2.2.1))
    let b12 : Bool := decide ((wrap64 (p9.1 * 100)) > x11)
    bif b12 then
     some (8, ())
    else
     some (0, ())
noncomputable def impl_Cluster_yholds.ent : Entry := ⟨[false, false, false], [.agg [.val .bor (.slice R1), .val .bor (.slice R2), .val .bor (.slice R5), .val .bor (.int .i64), .val .bor (.int .i64)], .agg [.val .bor (.str), .val .bor (.int .i64), .val .bor (.int .i64), .val .bor (.int .i64), .val .bor (.int .i64), .val .bor (.bool), .val .bor (.bool)], .agg [.val .bor (.str), .val .bor (.int .i64), .val .bor (.int .i64), .val .bor (.int .i64), .val .bor (.int .i64), .val .bor (.int .i64), .val .bor (.str), .val .bor (.int .i64)]], [.cell (.val .bor (.int .i64))], [], fun v => impl_Cluster_yholds v.1 v.2.1 v.2.2.1 v.2.2.2.1 v.2.2.2.2.1 v.2.2.2.2.2.1 v.2.2.2.2.2.2.1 v.2.2.2.2.2.2.2.1 v.2.2.2.2.2.2.2.2.1 v.2.2.2.2.2.2.2.2.2.1 v.2.2.2.2.2.2.2.2.2.2.1 v.2.2.2.2.2.2.2.2.2.2.2.1 v.2.2.2.2.2.2.2.2.2.2.2.2.1 v.2.2.2.2.2.2.2.2.2.2.2.2.2.1 v.2.2.2.2.2.2.2.2.2.2.2.2.2.2.1 v.2.2.2.2.2.2.2.2.2.2.2.2.2.2.2.1 v.2.2.2.2.2.2.2.2.2.2.2.2.2.2.2.2.1 v.2.2.2.2.2.2.2.2.2.2.2.2.2.2.2.2.2.1 v.2.2.2.2.2.2.2.2.2.2.2.2.2.2.2.2.2.2.1 v.2.2.2.2.2.2.2.2.2.2.2.2.2.2.2.2.2.2.2.1⟩
theorem impl_Cluster_yholds.eq : ∀ v, evFn impl_Cluster_yholds.E f45 impl_Cluster_yholds.ent.ptrs impl_Cluster_yholds.ent.ins impl_Cluster_yholds.ent.rets impl_Cluster_yholds.ent.outs v = impl_Cluster_yholds.ent.f v := by intro v; kernel_rfl
theorem impl_Cluster_yholds.fok : ∀ q ∈ [((79 : Nat), impl_Cluster_yothers.ent)], EntryOK Pr q.1 q.2 := by
 intro q hq
 simp only [List.mem_cons, List.mem_nil_iff, or_false] at hq
 rcases hq with rfl
 · exact impl_Cluster_yothers.ok
theorem impl_Cluster_yholds_l5.it : ∀ n v, iter (evStep impl_Cluster_yholds.E5 (bodyAt 5 f45) impl_Cluster_yholds_l5.ent.ins impl_Cluster_yholds_l5.ent.rts impl_Cluster_yholds_l5.ent.hm impl_Cluster_yholds_l5.ent.nl impl_Cluster_yholds_l5.ent.xs) n v = impl_Cluster_yholds_l5 n v.1 v.2.1 v.2.2.1 v.2.2.2.1 v.2.2.2.2.1 v.2.2.2.2.2.1 v.2.2.2.2.2.2.1 v.2.2.2.2.2.2.2.1 v.2.2.2.2.2.2.2.2.1 v.2.2.2.2.2.2.2.2.2.1 v.2.2.2.2.2.2.2.2.2.2.1 v.2.2.2.2.2.2.2.2.2.2.2.1 v.2.2.2.2.2.2.2.2.2.2.2.2.1 v.2.2.2.2.2.2.2.2.2.2.2.2.2.1 v.2.2.2.2.2.2.2.2.2.2.2.2.2.2.1 v.2.2.2.2.2.2.2.2.2.2.2.2.2.2.2.1 v.2.2.2.2.2.2.2.2.2.2.2.2.2.2.2.2.1 v.2.2.2.2.2.2.2.2.2.2.2.2.2.2.2.2.2.1 v.2.2.2.2.2.2.2.2.2.2.2.2.2.2.2.2.2.2.1 v.2.2.2.2.2.2.2.2.2.2.2.2.2.2.2.2.2.2.2.1 v.2.2.2.2.2.2.2.2.2.2.2.2.2.2.2.2.2.2.2.2.1 v.2.2.2.2.2.2.2.2.2.2.2.2.2.2.2.2.2.2.2.2.2.1 v.2.2.2.2.2.2.2.2.2.2.2.2.2.2.2.2.2.2.2.2.2.2.1 v.2.2.2.2.2.2.2.2.2.2.2.2.2.2.2.2.2.2.2.2.2.2.2.1 v.2.2.2.2.2.2.2.2.2.2.2.2.2.2.2.2.2.2.2.2.2.2.2.2.1 := by
 intro n
 induction n with
 | zero => intro v; rfl
 | succ n ih =>
  intro v
  show (evStep impl_Cluster_yholds.E5 (bodyAt 5 f45) impl_Cluster_yholds_l5.ent.ins impl_Cluster_yholds_l5.ent.rts impl_Cluster_yholds_l5.ent.hm impl_Cluster_yholds_l5.ent.nl impl_Cluster_yholds_l5.ent.xs) (iter (evStep impl_Cluster_yholds.E5 (bodyAt 5 f45) impl_Cluster_yholds_l5.ent.ins impl_Cluster_yholds_l5.ent.rts impl_Cluster_yholds_l5.ent.hm impl_Cluster_yholds_l5.ent.nl impl_Cluster_yholds_l5.ent.xs) n) v = _
  rw [impl_Cluster_yholds_l5.eq, show (fun c0 c1 c2 c3 c4 c5 c6 c7 c8 c9 c10 c11 c12 c13 c14 c15 c16 c17 c18 c19 c20 c21 c22 c23 c24 => iter (evStep impl_Cluster_yholds.E5 (bodyAt 5 f45) impl_Cluster_yholds_l5.ent.ins impl_Cluster_yholds_l5.ent.rts impl_Cluster_yholds_l5.ent.hm impl_Cluster_yholds_l5.ent.nl impl_Cluster_yholds_l5.ent.xs) n (c0, c1, c2, c3, c4, c5, c6, c7, c8, c9, c10, c11, c12, c13, c14, c15, c16, c17, c18, c19, c20, c21, c22, c23, c24, ())) = impl_Cluster_yholds_l5 n from by funext c0 c1 c2 c3 c4 c5 c6 c7 c8 c9 c10 c11 c12 c13 c14 c15 c16 c17 c18 c19 c20 c21 c22 c23 c24; exact ih _]
  rfl
theorem impl_Cluster_yholds_l5.fr : firstRegion (bodyAt 5 f45) = 5 := by kernel_rfl
theorem impl_Cluster_yholds_l5.ls : loopsOf (bodyAt 5 f45) = [] := by kernel_rfl
theorem impl_Cluster_yholds_l5.lok {E : Env} (hpin : impl_Cluster_yholds.E5.pin = E.pin) (hfind : find 5 E.loops = some impl_Cluster_yholds_l5.ent) : LoopOK Pr E (bodyAt 5 f45) :=
 loop_of (E1 := impl_Cluster_yholds.E5) (EnvOK.of dok impl_Cluster_yholds.fok) mixed hpin (by rw [impl_Cluster_yholds_l5.fr]; exact hfind) impl_Cluster_yholds_l5.ls (by intro l hl; simp at hl) (fun v => (impl_Cluster_yholds_l5.it K0 v).symm)
theorem impl_Cluster_yholds.ls : loopsOf (bodyOf f45) = [bodyAt 5 f45] := by kernel_rfl
theorem impl_Cluster_yholds.ok : EntryOK Pr 45 impl_Cluster_yholds.ent :=
 entry_ok (E := impl_Cluster_yholds.E) (EnvOK.of dok impl_Cluster_yholds.fok) mixed (fn := f45) (by kernel_rfl) (by kernel_rfl) (by decide) impl_Cluster_yholds.ls (by intro l hl; simp only [List.mem_singleton] at hl; subst hl; exact impl_Cluster_yholds_l5.lok rfl rfl) impl_Cluster_yholds.eq
/-! ### (loop.example/g00038/impl.Cluster).yused -/
noncomputable def impl_Cluster_yused.E3 : Env := ⟨D, [], [], []⟩
noncomputable def impl_Cluster_yused_l3_step (rec : Int → Int → Int → List V2 → Int → Int → Option ((Int × Int × Unit))) (y0 : Int) (y1 : Int) (y2 : Int) (y3 : List V2) (y4 : Int) (y5 : Int) : Option ((Int × Int × Unit)) :=
 bif decide (y5 < y4) then
  let e1 : V2 := rd R2 y3 y5
  bif decide (0 ≤ y5) && decide (y5 < (y3.length : Int)) then
   let x2 : Int := (wrap64 (y2 + e1.2.2.2.1))
   let x3 : Int := (bif (e1.2.1 == y0) then y0 else y0)
   let x4 : Int := (bif (e1.2.1 == y0) then (wrap64 (y1 + e1.2.2.1)) else y1)
   let x5 : Int := (bif (e1.2.1 == y0) then x2 else y2)
   let l6 : List V2 := (bif (e1.2.1 == y0) then y3 else y3)
   let x7 : Int := (bif (e1.2.1 == y0) then y4 else y4)
   let x8 : Int := (bif (e1.2.1 == y0) then y5 else y5)
   rec x3 x4 x5 l6 x7 (wrap64 (x8 + 1))
  else none
 else
  some (y1, y2, ())
noncomputable def impl_Cluster_yused_l3 : Nat → Int → Int → Int → List V2 → Int → Int → Option ((Int × Int × Unit))
 | 0 => fun _ _ _ _ _ _ => none
 | n + 1 => impl_Cluster_yused_l3_step (impl_Cluster_yused_l3 n)
noncomputable def impl_Cluster_yused_l3.ent : LEntry := ⟨sk 1 (.cell (.val .bor (.int .i64)) :: (sk 4 (.cell (.val .bor (.int .i64)) :: (.cell (.val .bor (.int .i64)) :: (sk 3 (.cell (.val .bor (.slice R2)) :: (.cell (.val .bor (.int .i64)) :: (.cell (.val .bor (.int .i64)) :: (sk 18 []))))))))), rk 32 [], [], [], [⟨some 0, sk 6 (.cell (.val .bor (.int .i64)) :: (.cell (.val .bor (.int .i64)) :: (sk 24 []))), rk 32 [], [], []⟩], fun v => impl_Cluster_yused_l3 K0 v.1 v.2.1 v.2.2.1 v.2.2.2.1 v.2.2.2.2.1 v.2.2.2.2.2.1⟩
theorem impl_Cluster_yused_l3.eq : ∀ rec v, evStep impl_Cluster_yused.E3 (bodyAt 3 f80) impl_Cluster_yused_l3.ent.ins impl_Cluster_yused_l3.ent.rts impl_Cluster_yused_l3.ent.hm impl_Cluster_yused_l3.ent.nl impl_Cluster_yused_l3.ent.xs rec v = impl_Cluster_yused_l3_step (fun c0 c1 c2 c3 c4 c5 => rec (c0, c1, c2, c3, c4, c5, ())) v.1 v.2.1 v.2.2.1 v.2.2.2.1 v.2.2.2.2.1 v.2.2.2.2.2.1 := by intro rec v; kernel_rfl
noncomputable def impl_Cluster_yused.E : Env := ⟨D, [], [], [(3, impl_Cluster_yused_l3.ent)]⟩
noncomputable def impl_Cluster_yused (a0 : List V1) (a1 : List V2) (a2 : List V5) (a3 : Int) (a4 : Int) (a5 : Int) : Option (Int × Int × Unit) :=
 (impl_Cluster_yused_l3 K0 a5 0 0 a1 (a1.length : Int) 0).bind fun o19 =>
 some (o19.1, o19.2.1, ())
noncomputable def impl_Cluster_yused.ent : Entry := ⟨[false, false], [.agg [.val .bor (.slice R1), .val .bor (.slice R2), .val .bor (.slice R5), .val .bor (.int .i64), .val .bor (.int .i64)], .cell (.val .bor (.int .i64))], [.cell (.val .bor (.int .i64)), .cell (.val .bor (.int .i64))], [], fun v => impl_Cluster_yused v.1 v.2.1 v.2.2.1 v.2.2.2.1 v.2.2.2.2.1 v.2.2.2.2.2.1⟩
theorem impl_Cluster_yused.eq : ∀ v, evFn impl_Cluster_yused.E f80 impl_Cluster_yused.ent.ptrs impl_Cluster_yused.ent.ins impl_Cluster_yused.ent.rets impl_Cluster_yused.ent.outs v = impl_Cluster_yused.ent.f v := by intro v; kernel_rfl
theorem impl_Cluster_yused.fok : ∀ q ∈ ([] : List (Nat × Entry)), EntryOK Pr q.1 q.2 := by intro q hq; simp at hq
theorem impl_Cluster_yused_l3.it : ∀ n v, iter (evStep impl_Cluster_yused.E3 (bodyAt 3 f80) impl_Cluster_yused_l3.ent.ins impl_Cluster_yused_l3.ent.rts impl_Cluster_yused_l3.ent.hm impl_Cluster_yused_l3.ent.nl impl_Cluster_yused_l3.ent.xs) n v = impl_Cluster_yused_l3 n v.1 v.2.1 v.2.2.1 v.2.2.2.1 v.2.2.2.2.1 v.2.2.2.2.2.1 := by
 intro n
 induction n with
 | zero => intro v; rfl
 | succ n ih =>
  intro v
  show (evStep impl_Cluster_yused.E3 (bodyAt 3 f80) impl_Cluster_yused_l3.ent.ins impl_Cluster_yused_l3.ent.rts impl_Cluster_yused_l3.ent.hm impl_Cluster_yused_l3.ent.nl impl_Cluster_yused_l3.ent.xs) (iter (evStep impl_Cluster_yused.E3 (bodyAt 3 f80) impl_Cluster_yused_l3.ent.ins impl_Cluster_yused_l3.ent.rts impl_Cluster_yused_l3.ent.hm impl_Cluster_yused_l3.ent.nl impl_Cluster_yused_l3.ent.xs) n) v = _
  rw [impl_Cluster_yused_l3.eq, show (fun c0 c1 c2 c3 c4 c5 => iter (evStep impl_Cluster_yused.E3 (bodyAt 3 f80) impl_Cluster_yused_l3.ent.ins impl_Cluster_yused_l3.ent.rts impl_Cluster_yused_l3.ent.hm impl_Cluster_yused_l3.ent.nl impl_Cluster_yused_l3.ent.xs) n (c0, c1, c2, c3, c4, c5, ())) = impl_Cluster_yused_l3 n from by funext c0 c1 c2 c3 c4 c5; exact ih _]
  rfl
theorem impl_Cluster_yused_l3.fr : firstRegion (bodyAt 3 f80) = 3 := by kernel_rfl
theorem impl_Cluster_yused_l3.ls : loopsOf (bodyAt 3 f80) = [] := by kernel_rfl
theorem impl_Cluster_yused_l3.lok {E : Env} (hpin : impl_Cluster_yused.E3.pin = E.pin) (hfind : find 3 E.loops = some impl_Cluster_yused_l3.ent) : LoopOK Pr E (bodyAt 3 f80) :=
 loop_of (E1 := impl_Cluster_yused.E3) (EnvOK.of dok impl_Cluster_yused.fok) mixed hpin (by rw [impl_Cluster_yused_l3.fr]; exact hfind) impl_Cluster_yused_l3.ls (by intro l hl; simp at hl) (fun v => (impl_Cluster_yused_l3.it K0 v).symm)
theorem impl_Cluster_yused.ls : loopsOf (bodyOf f80) = [bodyAt 3 f80] := by kernel_rfl
theorem impl_Cluster_yused.ok : EntryOK Pr 80 impl_Cluster_yused.ent :=
 entry_ok (E := impl_Cluster_yused.E) (EnvOK.of dok impl_Cluster_yused.fok) mixed (fn := f80) (by kernel_rfl) (by kernel_rfl) (by decide) impl_Cluster_yused.ls (by intro l hl; simp only [List.mem_singleton] at hl; subst hl; exact impl_Cluster_yused_l3.lok rfl rfl) impl_Cluster_yused.eq
/-! ### (loop.example/g00038/impl.Cluster).ywithin -/
noncomputable def impl_Cluster_ywithin.E : Env := ⟨D, [], [(80, impl_Cluster_yused.ent)], []⟩
noncomputable def impl_Cluster_ywithin (a0 : List V1) (a1 : List V2) (a2 : List V5) (a3 : Int) (a4 : Int) (a5 : Int) : Option (Bool × Unit) :=
 (impl_Cluster_yused a0 a1 a2 a3 a4 a5).bind fun r1 =>
 let e2 : V5 := rd R5 a2 a5
 let b3 : Bool := (decide (r1.1 ≤ e2.1) && decide (r1.2.1 ≤ e2.2.1))
 bif (decide (0 ≤ a5) && decide (a5 < (a2.length : Int))) && (!(decide (r1.1 ≤ e2.1)) || (decide (0 ≤ a5) && decide (a5 < (a2.length : Int)))) then
  some (b3, ())
 else none
noncomputable def impl_Cluster_ywithin.ent : Entry := ⟨[false, false], [.agg [.val .bor (.slice R1), .val .bor (.slice R2), .val .bor (.slice R5), .val .bor (.int .i64), .val .bor (.int .i64)], .cell (.val .bor (.int .i64))], [.cell (.val .bor (.bool))], [], fun v => impl_Cluster_ywithin v.1 v.2.1 v.2.2.1 v.2.2.2.1 v.2.2.2.2.1 v.2.2.2.2.2.1⟩
theorem impl_Cluster_ywithin.eq : ∀ v, evFn impl_Cluster_ywithin.E f46 impl_Cluster_ywithin.ent.ptrs impl_Cluster_ywithin.ent.ins impl_Cluster_ywithin.ent.rets impl_Cluster_ywithin.ent.outs v = impl_Cluster_ywithin.ent.f v := by intro v; kernel_rfl
theorem impl_Cluster_ywithin.fok : ∀ q ∈ [((80 : Nat), impl_Cluster_yused.ent)], EntryOK Pr q.1 q.2 := by
 intro q hq
 simp only [List.mem_cons, List.mem_nil_iff, or_false] at hq
 rcases hq with rfl
 · exact impl_Cluster_yused.ok
theorem impl_Cluster_ywithin.ls : loopsOf (bodyOf f46) = [] := by kernel_rfl
theorem impl_Cluster_ywithin.ok : EntryOK Pr 46 impl_Cluster_ywithin.ent :=
 entry_ok (E := impl_Cluster_ywithin.E) (EnvOK.of dok impl_Cluster_ywithin.fok) mixed (fn := f46) (by kernel_rfl) (by kernel_rfl) (by decide) impl_Cluster_ywithin.ls (by intro l hl; simp at hl) impl_Cluster_ywithin.eq
/-! ### loop.example/g00038/impl.ClusterFault -/
noncomputable def impl_ClusterFault.E4 : Env := ⟨D, [], [(41, impl_yin.ent), (42, impl_yisName.ent), (43, impl_yvmOk.ent), (44, impl_Cluster_ynode.ent), (45, impl_Cluster_yholds.ent), (46, impl_Cluster_ywithin.ent)], []⟩
noncomputable def impl_ClusterFault_l4_step (rec : List V1 → Int → Int → List V1 → List V2 → List V5 → Int → Int → Option ((Int × Unit) ⊕ (List V1 × List V2 × List V5 × Int × Int × Unit))) (y0 : List V1) (y1 : Int) (y2 : Int) (y3 : List V1) (y4 : List V2) (y5 : List V5) (y6 : Int) (y7 : Int) : Option ((Int × Unit) ⊕ (List V1 × List V2 × List V5 × Int × Int × Unit)) :=
 bif decide (y2 < y1) then
  let e7 : V1 := rd R1 y0 y2
  bif decide (0 ≤ y2) && decide (y2 < (y0.length : Int)) then
   let r8 : Bool × Unit := (impl_yisName e7.1).getD (false, ())
   let e9 : V1 := rd R1 y3 (wrap64 (y2 - 1))
   let b10 : Bool := (decide (y2 > 0) && !slt e9.1 e7.1)
   let r11 : Bool × Unit := (impl_yin e7.2.1 1 64).getD (false, ())
   let b12 : Bool := ((!r8.1 || b10) || !r11.1)
   let r13 : Bool × Unit := (impl_yin e7.2.2.1 1 1000).getD (false, ())
   let r14 : Bool × Unit := (impl_yin e7.2.2.2.1 1 20).getD (false, ())
   let b15 : Bool := ((b12 || !r13.1) || !r14.1)
   let r16 : Bool × Unit := (impl_yin e7.2.2.2.2.1 0 y7).getD (false, ())
   bif ((impl_yisName e7.1).isSome) && ((!(!(!r8.1) && decide (y2 > 0)) || (decide (0 ≤ (wrap64 (y2 - 1))) && decide ((wrap64 (y2 - 1)) < (y3.length : Int)))) && ((!(!(!r8.1 || b10)) || ((impl_yin e7.2.1 1 64).isSome)) && ((!(!b12) || ((impl_yin e7.2.2.1 1 1000).isSome)) && ((!(!(b12 || !r13.1)) || ((impl_yin e7.2.2.2.1 1 20).isSome)) && (!(!b15) || ((impl_yin e7.2.2.2.2.1 0 y7).isSome)))))) then
    bif (b15 || !r16.1) then
     some (Sum.inl (1, ()))
    else
     rec y0 y1 (wrap64 (y2 + 1)) y3 y4 y5 y6 y7
   else none
  else none
 else
  some (Sum.inr (y3, y4, y5, y6, y7, ()))
noncomputable def impl_ClusterFault_l4 : Nat → List V1 → Int → Int → List V1 → List V2 → List V5 → Int → Int → Option ((Int × Unit) ⊕ (List V1 × List V2 × List V5 × Int × Int × Unit))
 | 0 => fun _ _ _ _ _ _ _ _ => none
 | n + 1 => impl_ClusterFault_l4_step (impl_ClusterFault_l4 n)
noncomputable def impl_ClusterFault_l4.ent : LEntry := ⟨sk 1 (.cell (.fix (.ptr 1 0)) :: (sk 39 (.cell (.val .bor (.slice R1)) :: (.cell (.val .bor (.int .i64)) :: (.cell (.val .bor (.int .i64)) :: (sk 143 [])))))), rk 1 ([.val .bor (.slice R1), .val .bor (.slice R2), .val .bor (.slice R5), .val .bor (.int .i64), .val .bor (.int .i64)] :: (rk 185 [])), [], [], [⟨none, sk 2 (.cell (.val .bor (.int .i64)) :: (sk 184 [])), rk 187 [], [], []⟩, ⟨some 0, sk 1 (.cell (.fix (.ptr 1 0)) :: (sk 185 [])), rk 1 ([.val .bor (.slice R1), .val .bor (.slice R2), .val .bor (.slice R5), .val .bor (.int .i64), .val .bor (.int .i64)] :: (rk 185 [])), [], []⟩], fun v => impl_ClusterFault_l4 K0 v.1 v.2.1 v.2.2.1 v.2.2.2.1 v.2.2.2.2.1 v.2.2.2.2.2.1 v.2.2.2.2.2.2.1 v.2.2.2.2.2.2.2.1⟩
theorem impl_ClusterFault_l4.eq : ∀ rec v, evStep impl_ClusterFault.E4 (bodyAt 4 f12) impl_ClusterFault_l4.ent.ins impl_ClusterFault_l4.ent.rts impl_ClusterFault_l4.ent.hm impl_ClusterFault_l4.ent.nl impl_ClusterFault_l4.ent.xs rec v = impl_ClusterFault_l4_step (fun c0 c1 c2 c3 c4 c5 c6 c7 => rec (c0, c1, c2, c3, c4, c5, c6, c7, ())) v.1 v.2.1 v.2.2.1 v.2.2.2.1 v.2.2.2.2.1 v.2.2.2.2.2.1 v.2.2.2.2.2.2.1 v.2.2.2.2.2.2.2.1 := by intro rec v; kernel_rfl
noncomputable def impl_ClusterFault.E10 : Env := ⟨D, [], [(41, impl_yin.ent), (42, impl_yisName.ent), (43, impl_yvmOk.ent), (44, impl_Cluster_ynode.ent), (45, impl_Cluster_yholds.ent), (46, impl_Cluster_ywithin.ent)], [(4, impl_ClusterFault_l4.ent)]⟩
noncomputable def impl_ClusterFault_l10_step (rec : List V5 → Int → Int → List V1 → List V2 → List V5 → Int → Int → Option ((Int × Unit) ⊕ (List V1 × List V2 × List V5 × Int × Int × Unit))) (y0 : List V5) (y1 : Int) (y2 : Int) (y3 : List V1) (y4 : List V2) (y5 : List V5) (y6 : Int) (y7 : Int) : Option ((Int × Unit) ⊕ (List V1 × List V2 × List V5 × Int × Int × Unit)) :=
 bif decide (y2 < y1) then
  let e20 : V5 := rd R5 y0 y2
  bif decide (0 ≤ y2) && decide (y2 < (y0.length : Int)) then
   (impl_yin e20.1 0 10000).bind fun r21 =>
   let r22 : Bool × Unit := (impl_yin e20.2.1 0 10000).getD (false, ())
   let r23 : Bool × Unit := (impl_yin e20.2.2 0 1152921504606846976).getD (false, ())
   let b24 : Bool := ((!r21.1 || !r22.1) || !r23.1)
   bif (!(!(!r21.1)) || ((impl_yin e20.2.1 0 10000).isSome)) && (!(!(!r21.1 || !r22.1)) || ((impl_yin e20.2.2 0 1152921504606846976).isSome)) then
    bif b24 then
     some (Sum.inl (1, ()))
    else
     rec y0 y1 (wrap64 (y2 + 1)) y3 y4 y5 y6 y7
   else none
  else none
 else
  some (Sum.inr (y3, y4, y5, y6, y7, ()))
noncomputable def impl_ClusterFault_l10 : Nat → List V5 → Int → Int → List V1 → List V2 → List V5 → Int → Int → Option ((Int × Unit) ⊕ (List V1 × List V2 × List V5 × Int × Int × Unit))
 | 0 => fun _ _ _ _ _ _ _ _ => none
 | n + 1 => impl_ClusterFault_l10_step (impl_ClusterFault_l10 n)
noncomputable def impl_ClusterFault_l10.ent : LEntry := ⟨sk 1 (.cell (.fix (.ptr 1 0)) :: (sk 94 (.cell (.val .bor (.slice R5)) :: (.cell (.val .bor (.int .i64)) :: (.cell (.val .bor (.int .i64)) :: (sk 88 [])))))), rk 1 ([.val .bor (.slice R1), .val .bor (.slice R2), .val .bor (.slice R5), .val .bor (.int .i64), .val .bor (.int .i64)] :: (rk 185 [])), [], [], [⟨none, sk 2 (.cell (.val .bor (.int .i64)) :: (sk 184 [])), rk 187 [], [], []⟩, ⟨some 2, sk 1 (.cell (.fix (.ptr 1 0)) :: (sk 185 [])), rk 1 ([.val .bor (.slice R1), .val .bor (.slice R2), .val .bor (.slice R5), .val .bor (.int .i64), .val .bor (.int .i64)] :: (rk 185 [])), [], []⟩], fun v => impl_ClusterFault_l10 K0 v.1 v.2.1 v.2.2.1 v.2.2.2.1 v.2.2.2.2.1 v.2.2.2.2.2.1 v.2.2.2.2.2.2.1 v.2.2.2.2.2.2.2.1⟩
theorem impl_ClusterFault_l10.eq : ∀ rec v, evStep impl_ClusterFault.E10 (bodyAt 10 f12) impl_ClusterFault_l10.ent.ins impl_ClusterFault_l10.ent.rts impl_ClusterFault_l10.ent.hm impl_ClusterFault_l10.ent.nl impl_ClusterFault_l10.ent.xs rec v = impl_ClusterFault_l10_step (fun c0 c1 c2 c3 c4 c5 c6 c7 => rec (c0, c1, c2, c3, c4, c5, c6, c7, ())) v.1 v.2.1 v.2.2.1 v.2.2.2.1 v.2.2.2.2.1 v.2.2.2.2.2.1 v.2.2.2.2.2.2.1 v.2.2.2.2.2.2.2.1 := by intro rec v; kernel_rfl
noncomputable def impl_ClusterFault.E16 : Env := ⟨D, [], [(41, impl_yin.ent), (42, impl_yisName.ent), (43, impl_yvmOk.ent), (44, impl_Cluster_ynode.ent), (45, impl_Cluster_yholds.ent), (46, impl_Cluster_ywithin.ent)], [(4, impl_ClusterFault_l4.ent), (10, impl_ClusterFault_l10.ent)]⟩
noncomputable def impl_ClusterFault_l16_step (rec : List V2 → Int → Int → List V1 → List V2 → List V5 → Int → Int → Option ((Int × Unit) ⊕ (List V1 × List V2 × List V5 × Int × Int × Unit))) (y0 : List V2) (y1 : Int) (y2 : Int) (y3 : List V1) (y4 : List V2) (y5 : List V5) (y6 : Int) (y7 : Int) : Option ((Int × Unit) ⊕ (List V1 × List V2 × List V5 × Int × Int × Unit)) :=
 bif decide (y2 < y1) then
  let e28 : V2 := rd R2 y0 y2
  bif decide (0 ≤ y2) && decide (y2 < (y0.length : Int)) then
   let r29 : Bool × Unit := (impl_yvmOk e28.1 e28.2.1 e28.2.2.1 e28.2.2.2.1 e28.2.2.2.2.1 e28.2.2.2.2.2.1 e28.2.2.2.2.2.2.1 e28.2.2.2.2.2.2.2 (y5.length : Int)).getD (false, ())
   let e30 : V2 := rd R2 y4 (wrap64 (y2 - 1))
   let b31 : Bool := (decide (y2 > 0) && !slt e30.1 e28.1)
   let r32 : Bool × Unit := (impl_yin e28.2.2.2.2.2.2.2 0 1099511627776).getD (false, ())
   let b33 : Bool := ((!r29.1 || b31) || !r32.1)
   bif ((impl_yvmOk e28.1 e28.2.1 e28.2.2.1 e28.2.2.2.1 e28.2.2.2.2.1 e28.2.2.2.2.2.1 e28.2.2.2.2.2.2.1 e28.2.2.2.2.2.2.2 (y5.length : Int)).isSome) && ((!(!(!r29.1) && decide (y2 > 0)) || (decide (0 ≤ (wrap64 (y2 - 1))) && decide ((wrap64 (y2 - 1)) < (y4.length : Int)))) && (!(!(!r29.1 || b31)) || ((impl_yin e28.2.2.2.2.2.2.2 0 1099511627776).isSome))) then
    bif b33 then
     some (Sum.inl (1, ()))
    else
     let b34 : Bool := seq e28.2.2.2.2.2.2.1 (⟨#[]⟩ : ByteArray)
     bif b34 then
      rec y0 y1 (wrap64 (y2 + 1)) y3 y4 y5 y6 y7
     else
      (impl_Cluster_ynode y3 y4 y5 y6 y7 e28.2.2.2.2.2.2.1).bind fun r35 =>
      let e36 : V1 := rd R1 y3 r35.1
      let r37 : Int × Unit := (impl_Cluster_yholds y3 y4 y5 y6 y7 e36.1 e36.2.1 e36.2.2.1 e36.2.2.2.1 e36.2.2.2.2.1 e36.2.2.2.2.2.1 e36.2.2.2.2.2.2 e28.1 e28.2.1 e28.2.2.1 e28.2.2.2.1 e28.2.2.2.2.1 e28.2.2.2.2.2.1 e28.2.2.2.2.2.2.1 e28.2.2.2.2.2.2.2).getD (0, ())
      let b38 : Bool := (decide (r35.1 < 0) || (r37.1 != 0))
      bif (!(!(decide (r35.1 < 0))) || (decide (0 ≤ r35.1) && decide (r35.1 < (y3.length : Int)))) && (!(!(decide (r35.1 < 0))) || ((impl_Cluster_yholds y3 y4 y5 y6 y7 e36.1 e36.2.1 e36.2.2.1 e36.2.2.2.1 e36.2.2.2.2.1 e36.2.2.2.2.2.1 e36.2.2.2.2.2.2 e28.1 e28.2.1 e28.2.2.1 e28.2.2.2.1 e28.2.2.2.2.1 e28.2.2.2.2.2.1 e28.2.2.2.2.2.2.1 e28.2.2.2.2.2.2.2).isSome)) then
       bif b38 then
        some (Sum.inl (1, ()))
       else
        rec y0 y1 (wrap64 (y2 + 1)) y3 y4 y5 y6 y7
      else none
   else none
  else none
 else
  some (Sum.inr (y3, y4, y5, y6, y7, ()))
noncomputable def impl_ClusterFault_l16 : Nat → List V2 → Int → Int → List V1 → List V2 → List V5 → Int → Int → Option ((Int × Unit) ⊕ (List V1 × List V2 × List V5 × Int × Int × Unit))
 | 0 => fun _ _ _ _ _ _ _ _ => none
 | n + 1 => impl_ClusterFault_l16_step (impl_ClusterFault_l16 n)
noncomputable def impl_ClusterFault_l16.ent : LEntry := ⟨sk 1 (.cell (.fix (.ptr 1 0)) :: (sk 118 (.cell (.val .bor (.slice R2)) :: (.cell (.val .bor (.int .i64)) :: (.cell (.val .bor (.int .i64)) :: (sk 64 [])))))), rk 1 ([.val .bor (.slice R1), .val .bor (.slice R2), .val .bor (.slice R5), .val .bor (.int .i64), .val .bor (.int .i64)] :: (rk 185 [])), [], [], [⟨none, sk 2 (.cell (.val .bor (.int .i64)) :: (sk 184 [])), rk 187 [], [], []⟩, ⟨some 4, sk 1 (.cell (.fix (.ptr 1 0)) :: (sk 185 [])), rk 1 ([.val .bor (.slice R1), .val .bor (.slice R2), .val .bor (.slice R5), .val .bor (.int .i64), .val .bor (.int .i64)] :: (rk 185 [])), [], []⟩], fun v => impl_ClusterFault_l16 K0 v.1 v.2.1 v.2.2.1 v.2.2.2.1 v.2.2.2.2.1 v.2.2.2.2.2.1 v.2.2.2.2.2.2.1 v.2.2.2.2.2.2.2.1⟩
theorem impl_ClusterFault_l16.eq : ∀ rec v, evStep impl_ClusterFault.E16 (bodyAt 16 f12) impl_ClusterFault_l16.ent.ins impl_ClusterFault_l16.ent.rts impl_ClusterFault_l16.ent.hm impl_ClusterFault_l16.ent.nl impl_ClusterFault_l16.ent.xs rec v = impl_ClusterFault_l16_step (fun c0 c1 c2 c3 c4 c5 c6 c7 => rec (c0, c1, c2, c3, c4, c5, c6, c7, ())) v.1 v.2.1 v.2.2.1 v.2.2.2.1 v.2.2.2.2.1 v.2.2.2.2.2.1 v.2.2.2.2.2.2.1 v.2.2.2.2.2.2.2.1 := by intro rec v; kernel_rfl
noncomputable def impl_ClusterFault.E26 : Env := ⟨D, [], [(41, impl_yin.ent), (42, impl_yisName.ent), (43, impl_yvmOk.ent), (44, impl_Cluster_ynode.ent), (45, impl_Cluster_yholds.ent), (46, impl_Cluster_ywithin.ent)], [(4, impl_ClusterFault_l4.ent), (10, impl_ClusterFault_l10.ent), (16, impl_ClusterFault_l16.ent)]⟩
noncomputable def impl_ClusterFault_l26_step (rec : Int → Int → List V1 → List V2 → List V5 → Int → Int → Option ((Int × Unit) ⊕ (Unit))) (y0 : Int) (y1 : Int) (y2 : List V1) (y3 : List V2) (y4 : List V5) (y5 : Int) (y6 : Int) : Option ((Int × Unit) ⊕ (Unit)) :=
 bif decide (y1 < y0) then
  (impl_Cluster_ywithin y2 y3 y4 y5 y6 y1).bind fun r42 =>
  bif !r42.1 then
   some (Sum.inl (1, ()))
  else
   rec y0 (wrap64 (y1 + 1)) y2 y3 y4 y5 y6
 else
  some (Sum.inr ())
noncomputable def impl_ClusterFault_l26 : Nat → Int → Int → List V1 → List V2 → List V5 → Int → Int → Option ((Int × Unit) ⊕ (Unit))
 | 0 => fun _ _ _ _ _ _ _ => none
 | n + 1 => impl_ClusterFault_l26_step (impl_ClusterFault_l26 n)
noncomputable def impl_ClusterFault_l26.ent : LEntry := ⟨sk 1 (.cell (.fix (.ptr 1 0)) :: (sk 176 (.cell (.val .bor (.int .i64)) :: (.cell (.val .bor (.int .i64)) :: (sk 7 []))))), rk 1 ([.val .bor (.slice R1), .val .bor (.slice R2), .val .bor (.slice R5), .val .bor (.int .i64), .val .bor (.int .i64)] :: (rk 185 [])), [], [], [⟨none, sk 2 (.cell (.val .bor (.int .i64)) :: (sk 184 [])), rk 187 [], [], []⟩, ⟨some 6, sk 187 [], rk 187 [], [], []⟩], fun v => impl_ClusterFault_l26 K0 v.1 v.2.1 v.2.2.1 v.2.2.2.1 v.2.2.2.2.1 v.2.2.2.2.2.1 v.2.2.2.2.2.2.1⟩
theorem impl_ClusterFault_l26.eq : ∀ rec v, evStep impl_ClusterFault.E26 (bodyAt 26 f12) impl_ClusterFault_l26.ent.ins impl_ClusterFault_l26.ent.rts impl_ClusterFault_l26.ent.hm impl_ClusterFault_l26.ent.nl impl_ClusterFault_l26.ent.xs rec v = impl_ClusterFault_l26_step (fun c0 c1 c2 c3 c4 c5 c6 => rec (c0, c1, c2, c3, c4, c5, c6, ())) v.1 v.2.1 v.2.2.1 v.2.2.2.1 v.2.2.2.2.1 v.2.2.2.2.2.1 v.2.2.2.2.2.2.1 := by intro rec v; kernel_rfl
noncomputable def impl_ClusterFault.E : Env := ⟨D, [], [(41, impl_yin.ent), (42, impl_yisName.ent), (43, impl_yvmOk.ent), (44, impl_Cluster_ynode.ent), (45, impl_Cluster_yholds.ent), (46, impl_Cluster_ywithin.ent)], [(4, impl_ClusterFault_l4.ent), (10, impl_ClusterFault_l10.ent), (16, impl_ClusterFault_l16.ent), (26, impl_ClusterFault_l26.ent)]⟩
noncomputable def impl_ClusterFault (a0 : List V1) (a1 : List V2) (a2 : List V5) (a3 : Int) (a4 : Int) : Option (Int × Unit) :=
 let b1 : Bool := decide ((a0.length : Int) > 12)
 let b2 : Bool := decide ((a1.length : Int) > 30)
 let r3 : Bool × Unit := (impl_yin (a2.length : Int) 1 8).getD (false, ())
 let r4 : Bool × Unit := (impl_yin a3 100 400).getD (false, ())
 let b5 : Bool := (((b1 || b2) || !r3.1) || !r4.1)
 let r6 : Bool × Unit := (impl_yin a4 0 1099511627776).getD (false, ())
 bif (!(!(b1 || b2)) || ((impl_yin (a2.length : Int) 1 8).isSome)) && ((!(!((b1 || b2) || !r3.1)) || ((impl_yin a3 100 400).isSome)) && (!(!b5) || ((impl_yin a4 0 1099511627776).isSome))) then
  bif (b5 || !r6.1) then
   some (1, ())
  else
   (impl_ClusterFault_l4 K0 a0 (a0.length : Int) 0 a0 a1 a2 a3 a4).bind fun o17 =>
   match o17 with
   | Sum.inl p18 =>
    some (p18.1, ())
   | Sum.inr p19 =>
    (impl_ClusterFault_l10 K0 p19.2.2.1 (p19.2.2.1.length : Int) 0 p19.1 p19.2.1 p19.2.2.1 p19.2.2.2.1 p19.2.2.2.2.1).bind fun o25 =>
    match o25 with
    | Sum.inl p26 =>
     some (p26.1, ())
    | Sum.inr p27 =>
     (impl_ClusterFault_l16 K0 p27.2.1 (p27.2.1.length : Int) 0 p27.1 p27.2.1 p27.2.2.1 p27.2.2.2.1 p27.2.2.2.2.1).bind fun o39 =>
     match o39 with
     | Sum.inl p40 =>
      some (p40.1, ())
     | Sum.inr p41 =>
      (impl_ClusterFault_l26 K0 (p41.2.2.1.length : Int) 0 p41.1 p41.2.1 p41.2.2.1 p41.2.2.2.1 p41.2.2.2.2.1).bind fun o43 =>
      match o43 with
      | Sum.inl p44 =>
       some (p44.1, ())
      | Sum.inr p45 =>
       some (0, ())
 else none
noncomputable def impl_ClusterFault.ent : Entry := ⟨[false], [.agg [.val .bor (.slice R1), .val .bor (.slice R2), .val .bor (.slice R5), .val .bor (.int .i64), .val .bor (.int .i64)]], [.cell (.val .bor (.int .i64))], [], fun v => impl_ClusterFault v.1 v.2.1 v.2.2.1 v.2.2.2.1 v.2.2.2.2.1⟩
theorem impl_ClusterFault.eq : ∀ v, evFn impl_ClusterFault.E f12 impl_ClusterFault.ent.ptrs impl_ClusterFault.ent.ins impl_ClusterFault.ent.rets impl_ClusterFault.ent.outs v = impl_ClusterFault.ent.f v := by intro v; kernel_rfl
theorem impl_ClusterFault.fok : ∀ q ∈ [((41 : Nat), impl_yin.ent), ((42 : Nat), impl_yisName.ent), ((43 : Nat), impl_yvmOk.ent), ((44 : Nat), impl_Cluster_ynode.ent), ((45 : Nat), impl_Cluster_yholds.ent), ((46 : Nat), impl_Cluster_ywithin.ent)], EntryOK Pr q.1 q.2 := by
 intro q hq
 simp only [List.mem_cons, List.mem_nil_iff, or_false] at hq
 rcases hq with rfl | rfl | rfl | rfl | rfl | rfl
 · exact impl_yin.ok
 · exact impl_yisName.ok
 · exact impl_yvmOk.ok
 · exact impl_Cluster_ynode.ok
 · exact impl_Cluster_yholds.ok
 · exact impl_Cluster_ywithin.ok
theorem impl_ClusterFault_l4.it : ∀ n v, iter (evStep impl_ClusterFault.E4 (bodyAt 4 f12) impl_ClusterFault_l4.ent.ins impl_ClusterFault_l4.ent.rts impl_ClusterFault_l4.ent.hm impl_ClusterFault_l4.ent.nl impl_ClusterFault_l4.ent.xs) n v = impl_ClusterFault_l4 n v.1 v.2.1 v.2.2.1 v.2.2.2.1 v.2.2.2.2.1 v.2.2.2.2.2.1 v.2.2.2.2.2.2.1 v.2.2.2.2.2.2.2.1 := by
 intro n
 induction n with
 | zero => intro v; rfl
 | succ n ih =>
  intro v
  show (evStep impl_ClusterFault.E4 (bodyAt 4 f12) impl_ClusterFault_l4.ent.ins impl_ClusterFault_l4.ent.rts impl_ClusterFault_l4.ent.hm impl_ClusterFault_l4.ent.nl impl_ClusterFault_l4.ent.xs) (iter (evStep impl_ClusterFault.E4 (bodyAt 4 f12) impl_ClusterFault_l4.ent.ins impl_ClusterFault_l4.ent.rts impl_ClusterFault_l4.ent.hm impl_ClusterFault_l4.ent.nl impl_ClusterFault_l4.ent.xs) n) v = _
  rw [impl_ClusterFault_l4.eq, show (fun c0 c1 c2 c3 c4 c5 c6 c7 => iter (evStep impl_ClusterFault.E4 (bodyAt 4 f12) impl_ClusterFault_l4.ent.ins impl_ClusterFault_l4.ent.rts impl_ClusterFault_l4.ent.hm impl_ClusterFault_l4.ent.nl impl_ClusterFault_l4.ent.xs) n (c0, c1, c2, c3, c4, c5, c6, c7, ())) = impl_ClusterFault_l4 n from by funext c0 c1 c2 c3 c4 c5 c6 c7; exact ih _]
  rfl
theorem impl_ClusterFault_l4.fr : firstRegion (bodyAt 4 f12) = 4 := by kernel_rfl
theorem impl_ClusterFault_l4.ls : loopsOf (bodyAt 4 f12) = [] := by kernel_rfl
theorem impl_ClusterFault_l4.lok {E : Env} (hpin : impl_ClusterFault.E4.pin = E.pin) (hfind : find 4 E.loops = some impl_ClusterFault_l4.ent) : LoopOK Pr E (bodyAt 4 f12) :=
 loop_of (E1 := impl_ClusterFault.E4) (EnvOK.of dok impl_ClusterFault.fok) mixed hpin (by rw [impl_ClusterFault_l4.fr]; exact hfind) impl_ClusterFault_l4.ls (by intro l hl; simp at hl) (fun v => (impl_ClusterFault_l4.it K0 v).symm)
theorem impl_ClusterFault_l10.it : ∀ n v, iter (evStep impl_ClusterFault.E10 (bodyAt 10 f12) impl_ClusterFault_l10.ent.ins impl_ClusterFault_l10.ent.rts impl_ClusterFault_l10.ent.hm impl_ClusterFault_l10.ent.nl impl_ClusterFault_l10.ent.xs) n v = impl_ClusterFault_l10 n v.1 v.2.1 v.2.2.1 v.2.2.2.1 v.2.2.2.2.1 v.2.2.2.2.2.1 v.2.2.2.2.2.2.1 v.2.2.2.2.2.2.2.1 := by
 intro n
 induction n with
 | zero => intro v; rfl
 | succ n ih =>
  intro v
  show (evStep impl_ClusterFault.E10 (bodyAt 10 f12) impl_ClusterFault_l10.ent.ins impl_ClusterFault_l10.ent.rts impl_ClusterFault_l10.ent.hm impl_ClusterFault_l10.ent.nl impl_ClusterFault_l10.ent.xs) (iter (evStep impl_ClusterFault.E10 (bodyAt 10 f12) impl_ClusterFault_l10.ent.ins impl_ClusterFault_l10.ent.rts impl_ClusterFault_l10.ent.hm impl_ClusterFault_l10.ent.nl impl_ClusterFault_l10.ent.xs) n) v = _
  rw [impl_ClusterFault_l10.eq, show (fun c0 c1 c2 c3 c4 c5 c6 c7 => iter (evStep impl_ClusterFault.E10 (bodyAt 10 f12) impl_ClusterFault_l10.ent.ins impl_ClusterFault_l10.ent.rts impl_ClusterFault_l10.ent.hm impl_ClusterFault_l10.ent.nl impl_ClusterFault_l10.ent.xs) n (c0, c1, c2, c3, c4, c5, c6, c7, ())) = impl_ClusterFault_l10 n from by funext c0 c1 c2 c3 c4 c5 c6 c7; exact ih _]
  rfl
theorem impl_ClusterFault_l10.fr : firstRegion (bodyAt 10 f12) = 10 := by kernel_rfl
theorem impl_ClusterFault_l10.ls : loopsOf (bodyAt 10 f12) = [] := by kernel_rfl
theorem impl_ClusterFault_l10.lok {E : Env} (hpin : impl_ClusterFault.E10.pin = E.pin) (hfind : find 10 E.loops = some impl_ClusterFault_l10.ent) : LoopOK Pr E (bodyAt 10 f12) :=
 loop_of (E1 := impl_ClusterFault.E10) (EnvOK.of dok impl_ClusterFault.fok) mixed hpin (by rw [impl_ClusterFault_l10.fr]; exact hfind) impl_ClusterFault_l10.ls (by intro l hl; simp at hl) (fun v => (impl_ClusterFault_l10.it K0 v).symm)
theorem impl_ClusterFault_l16.it : ∀ n v, iter (evStep impl_ClusterFault.E16 (bodyAt 16 f12) impl_ClusterFault_l16.ent.ins impl_ClusterFault_l16.ent.rts impl_ClusterFault_l16.ent.hm impl_ClusterFault_l16.ent.nl impl_ClusterFault_l16.ent.xs) n v = impl_ClusterFault_l16 n v.1 v.2.1 v.2.2.1 v.2.2.2.1 v.2.2.2.2.1 v.2.2.2.2.2.1 v.2.2.2.2.2.2.1 v.2.2.2.2.2.2.2.1 := by
 intro n
 induction n with
 | zero => intro v; rfl
 | succ n ih =>
  intro v
  show (evStep impl_ClusterFault.E16 (bodyAt 16 f12) impl_ClusterFault_l16.ent.ins impl_ClusterFault_l16.ent.rts impl_ClusterFault_l16.ent.hm impl_ClusterFault_l16.ent.nl impl_ClusterFault_l16.ent.xs) (iter (evStep impl_ClusterFault.E16 (bodyAt 16 f12) impl_ClusterFault_l16.ent.ins impl_ClusterFault_l16.ent.rts impl_ClusterFault_l16.ent.hm impl_ClusterFault_l16.ent.nl impl_ClusterFault_l16.ent.xs) n) v = _
  rw [impl_ClusterFault_l16.eq, show (fun c0 c1 c2 c3 c4 c5 c6 c7 => iter (evStep impl_ClusterFault.E16 (bodyAt 16 f12) impl_ClusterFault_l16.ent.ins impl_ClusterFault_l16.ent.rts impl_ClusterFault_l16.ent.hm impl_ClusterFault_l16.ent.nl impl_ClusterFault_l16.ent.xs) n (c0, c1, c2, c3, c4, c5, c6, c7, ())) = impl_ClusterFault_l16 n from by funext c0 c1 c2 c3 c4 c5 c6 c7; exact ih _]
  rfl
theorem impl_ClusterFault_l16.fr : firstRegion (bodyAt 16 f12) = 16 := by kernel_rfl
theorem impl_ClusterFault_l16.ls : loopsOf (bodyAt 16 f12) = [] := by kernel_rfl
theorem impl_ClusterFault_l16.lok {E : Env} (hpin : impl_ClusterFault.E16.pin = E.pin) (hfind : find 16 E.loops = some impl_ClusterFault_l16.ent) : LoopOK Pr E (bodyAt 16 f12) :=
 loop_of (E1 := impl_ClusterFault.E16) (EnvOK.of dok impl_ClusterFault.fok) mixed hpin (by rw [impl_ClusterFault_l16.fr]; exact hfind) impl_ClusterFault_l16.ls (by intro l hl; simp at hl) (fun v => (impl_ClusterFault_l16.it K0 v).symm)
theorem impl_ClusterFault_l26.it : ∀ n v, iter (evStep impl_ClusterFault.E26 (bodyAt 26 f12) impl_ClusterFault_l26.ent.ins impl_ClusterFault_l26.ent.rts impl_ClusterFault_l26.ent.hm impl_ClusterFault_l26.ent.nl impl_ClusterFault_l26.ent.xs) n v = impl_ClusterFault_l26 n v.1 v.2.1 v.2.2.1 v.2.2.2.1 v.2.2.2.2.1 v.2.2.2.2.2.1 v.2.2.2.2.2.2.1 := by
 intro n
 induction n with
 | zero => intro v; rfl
 | succ n ih =>
  intro v
  show (evStep impl_ClusterFault.E26 (bodyAt 26 f12) impl_ClusterFault_l26.ent.ins impl_ClusterFault_l26.ent.rts impl_ClusterFault_l26.ent.hm impl_ClusterFault_l26.ent.nl impl_ClusterFault_l26.ent.xs) (iter (evStep impl_ClusterFault.E26 (bodyAt 26 f12) impl_ClusterFault_l26.ent.ins impl_ClusterFault_l26.ent.rts impl_ClusterFault_l26.ent.hm impl_ClusterFault_l26.ent.nl impl_ClusterFault_l26.ent.xs) n) v = _
  rw [impl_ClusterFault_l26.eq, show (fun c0 c1 c2 c3 c4 c5 c6 => iter (evStep impl_ClusterFault.E26 (bodyAt 26 f12) impl_ClusterFault_l26.ent.ins impl_ClusterFault_l26.ent.rts impl_ClusterFault_l26.ent.hm impl_ClusterFault_l26.ent.nl impl_ClusterFault_l26.ent.xs) n (c0, c1, c2, c3, c4, c5, c6, ())) = impl_ClusterFault_l26 n from by funext c0 c1 c2 c3 c4 c5 c6; exact ih _]
  rfl
theorem impl_ClusterFault_l26.fr : firstRegion (bodyAt 26 f12) = 26 := by kernel_rfl
theorem impl_ClusterFault_l26.ls : loopsOf (bodyAt 26 f12) = [] := by kernel_rfl
theorem impl_ClusterFault_l26.lok {E : Env} (hpin : impl_ClusterFault.E26.pin = E.pin) (hfind : find 26 E.loops = some impl_ClusterFault_l26.ent) : LoopOK Pr E (bodyAt 26 f12) :=
 loop_of (E1 := impl_ClusterFault.E26) (EnvOK.of dok impl_ClusterFault.fok) mixed hpin (by rw [impl_ClusterFault_l26.fr]; exact hfind) impl_ClusterFault_l26.ls (by intro l hl; simp at hl) (fun v => (impl_ClusterFault_l26.it K0 v).symm)
theorem impl_ClusterFault.ls : loopsOf (bodyOf f12) = [bodyAt 4 f12, bodyAt 10 f12, bodyAt 16 f12, bodyAt 26 f12] := by kernel_rfl
theorem impl_ClusterFault.ok : EntryOK Pr 12 impl_ClusterFault.ent :=
 entry_ok (E := impl_ClusterFault.E) (EnvOK.of dok impl_ClusterFault.fok) mixed (fn := f12) (by kernel_rfl) (by kernel_rfl) (by decide) impl_ClusterFault.ls (by
  intro l hl
  simp only [List.mem_cons, List.mem_nil_iff, or_false] at hl
  rcases hl with rfl | rfl | rfl | rfl
  · exact impl_ClusterFault_l4.lok rfl rfl
  · exact impl_ClusterFault_l10.lok rfl rfl
  · exact impl_ClusterFault_l16.lok rfl rfl
  · exact impl_ClusterFault_l26.lok rfl rfl) impl_ClusterFault.eq
/-! ### (*loop.example/g00038/impl.Manager).ykept$1 -/
noncomputable def impl_Manager_ykept_1.E : Env := ⟨D, [], [], []⟩
noncomputable def impl_Manager_ykept_1 (a0 : Int) (a1 : ByteArray) (a2 : ByteArray) (a3 : Int) : Option (Bool × Unit) :=
 some ((a0 == a3), ())
noncomputable def impl_Manager_ykept_1.ent : Entry := ⟨[false, false], [.agg [.val .bor (.int .i64), .val .bor (.str), .val .bor (.str)], .rop [.val .bor (.int .i64)]], [.cell (.val .bor (.bool))], [], fun v => impl_Manager_ykept_1 v.1 v.2.1 v.2.2.1 v.2.2.2.1⟩
theorem impl_Manager_ykept_1.eq : ∀ v, evFn impl_Manager_ykept_1.E f92 impl_Manager_ykept_1.ent.ptrs impl_Manager_ykept_1.ent.ins impl_Manager_ykept_1.ent.rets impl_Manager_ykept_1.ent.outs v = impl_Manager_ykept_1.ent.f v := by intro v; kernel_rfl
theorem impl_Manager_ykept_1.fok : ∀ q ∈ ([] : List (Nat × Entry)), EntryOK Pr q.1 q.2 := by intro q hq; simp at hq
theorem impl_Manager_ykept_1.ls : loopsOf (bodyOf f92) = [] := by kernel_rfl
theorem impl_Manager_ykept_1.ok : EntryOK Pr 92 impl_Manager_ykept_1.ent :=
 entry_ok (E := impl_Manager_ykept_1.E) (EnvOK.of dok impl_Manager_ykept_1.fok) mixed (fn := f92) (by kernel_rfl) (by kernel_rfl) (by decide) impl_Manager_ykept_1.ls (by intro l hl; simp at hl) impl_Manager_ykept_1.eq
/-! ### slices.IndexFunc[[]loop.example/g00038/impl.Answer,loop.example/g00038/impl.Answer] -/
noncomputable def slices_IndexFunc_Answer.E2 : Env := ⟨D, [], [(92, impl_Manager_ykept_1.ent)], []⟩
noncomputable def slices_IndexFunc_Answer_l2_step (rec : List V3 → Int → Int → Int → Option ((Int × Unit) ⊕ (Unit))) (y0 : List V3) (y1 : Int) (y2 : Int) (y3 : Int) : Option ((Int × Unit) ⊕ (Unit)) :=
 bif decide (y3 < y2) then
  let e1 : V3 := rd R3 y0 y3
  (impl_Manager_ykept_1 e1.1 e1.2.1 e1.2.2 y1).bind fun r2 =>
  bif decide (0 ≤ y3) && decide (y3 < (y0.length : Int)) then
   bif r2.1 then
    some (Sum.inl (y3, ()))
   else
    rec y0 y1 y2 (wrap64 (y3 + 1))
  else none
 else
  some (Sum.inr ())
noncomputable def slices_IndexFunc_Answer_l2 : Nat → List V3 → Int → Int → Int → Option ((Int × Unit) ⊕ (Unit))
 | 0 => fun _ _ _ _ => none
 | n + 1 => slices_IndexFunc_Answer_l2_step (slices_IndexFunc_Answer_l2 n)
noncomputable def slices_IndexFunc_Answer_l2.ent : LEntry := ⟨(.cell (.val .bor (.slice R3)) :: (.clo 92 [[.val .bor (.int .i64)]] :: (sk 5 (.cell (.val .bor (.int .i64)) :: (.cell (.val .bor (.int .i64)) :: (sk 10 [])))))), rk 19 [], [], [], [⟨none, sk 4 (.cell (.val .bor (.int .i64)) :: (sk 14 [])), rk 19 [], [], []⟩, ⟨some 0, sk 19 [], rk 19 [], [], []⟩], fun v => slices_IndexFunc_Answer_l2 K0 v.1 v.2.1 v.2.2.1 v.2.2.2.1⟩
theorem slices_IndexFunc_Answer_l2.eq : ∀ rec v, evStep slices_IndexFunc_Answer.E2 (bodyAt 2 f91) slices_IndexFunc_Answer_l2.ent.ins slices_IndexFunc_Answer_l2.ent.rts slices_IndexFunc_Answer_l2.ent.hm slices_IndexFunc_Answer_l2.ent.nl slices_IndexFunc_Answer_l2.ent.xs rec v = slices_IndexFunc_Answer_l2_step (fun c0 c1 c2 c3 => rec (c0, c1, c2, c3, ())) v.1 v.2.1 v.2.2.1 v.2.2.2.1 := by intro rec v; kernel_rfl
noncomputable def slices_IndexFunc_Answer.E : Env := ⟨D, [], [(92, impl_Manager_ykept_1.ent)], [(2, slices_IndexFunc_Answer_l2.ent)]⟩
noncomputable def slices_IndexFunc_Answer (a0 : List V3) (a1 : Int) : Option (Int × Unit) :=
 (slices_IndexFunc_Answer_l2 K0 a0 a1 (a0.length : Int) 0).bind fun o3 =>
 match o3 with
 | Sum.inl p4 =>
  some (p4.1, ())
 | Sum.inr p5 =>
  some (-1, ())
noncomputable def slices_IndexFunc_Answer.ent : Entry := ⟨[false, false], [.cell (.val .bor (.slice R3)), .clo 92 [[.val .bor (.int .i64)]]], [.cell (.val .bor (.int .i64))], [], fun v => slices_IndexFunc_Answer v.1 v.2.1⟩
theorem slices_IndexFunc_Answer.eq : ∀ v, evFn slices_IndexFunc_Answer.E f91 slices_IndexFunc_Answer.ent.ptrs slices_IndexFunc_Answer.ent.ins slices_IndexFunc_Answer.ent.rets slices_IndexFunc_Answer.ent.outs v = slices_IndexFunc_Answer.ent.f v := by intro v; kernel_rfl
theorem slices_IndexFunc_Answer.fok : ∀ q ∈ [((92 : Nat), impl_Manager_ykept_1.ent)], EntryOK Pr q.1 q.2 := by
 intro q hq
 simp only [List.mem_cons, List.mem_nil_iff, or_false] at hq
 rcases hq with rfl
 · exact impl_Manager_ykept_1.ok
theorem slices_IndexFunc_Answer_l2.it : ∀ n v, iter (evStep slices_IndexFunc_Answer.E2 (bodyAt 2 f91) slices_IndexFunc_Answer_l2.ent.ins slices_IndexFunc_Answer_l2.ent.rts slices_IndexFunc_Answer_l2.ent.hm slices_IndexFunc_Answer_l2.ent.nl slices_IndexFunc_Answer_l2.ent.xs) n v = slices_IndexFunc_Answer_l2 n v.1 v.2.1 v.2.2.1 v.2.2.2.1 := by
 intro n
 induction n with
 | zero => intro v; rfl
 | succ n ih =>
  intro v
  show (evStep slices_IndexFunc_Answer.E2 (bodyAt 2 f91) slices_IndexFunc_Answer_l2.ent.ins slices_IndexFunc_Answer_l2.ent.rts slices_IndexFunc_Answer_l2.ent.hm slices_IndexFunc_Answer_l2.ent.nl slices_IndexFunc_Answer_l2.ent.xs) (iter (evStep slices_IndexFunc_Answer.E2 (bodyAt 2 f91) slices_IndexFunc_Answer_l2.ent.ins slices_IndexFunc_Answer_l2.ent.rts slices_IndexFunc_Answer_l2.ent.hm slices_IndexFunc_Answer_l2.ent.nl slices_IndexFunc_Answer_l2.ent.xs) n) v = _
  rw [slices_IndexFunc_Answer_l2.eq, show (fun c0 c1 c2 c3 => iter (evStep slices_IndexFunc_Answer.E2 (bodyAt 2 f91) slices_IndexFunc_Answer_l2.ent.ins slices_IndexFunc_Answer_l2.ent.rts slices_IndexFunc_Answer_l2.ent.hm slices_IndexFunc_Answer_l2.ent.nl slices_IndexFunc_Answer_l2.ent.xs) n (c0, c1, c2, c3, ())) = slices_IndexFunc_Answer_l2 n from by funext c0 c1 c2 c3; exact ih _]
  rfl
theorem slices_IndexFunc_Answer_l2.fr : firstRegion (bodyAt 2 f91) = 2 := by kernel_rfl
theorem slices_IndexFunc_Answer_l2.ls : loopsOf (bodyAt 2 f91) = [] := by kernel_rfl
theorem slices_IndexFunc_Answer_l2.lok {E : Env} (hpin : slices_IndexFunc_Answer.E2.pin = E.pin) (hfind : find 2 E.loops = some slices_IndexFunc_Answer_l2.ent) : LoopOK Pr E (bodyAt 2 f91) :=
 loop_of (E1 := slices_IndexFunc_Answer.E2) (EnvOK.of dok slices_IndexFunc_Answer.fok) mixed hpin (by rw [slices_IndexFunc_Answer_l2.fr]; exact hfind) slices_IndexFunc_Answer_l2.ls (by intro l hl; simp at hl) (fun v => (slices_IndexFunc_Answer_l2.it K0 v).symm)
theorem slices_IndexFunc_Answer.ls : loopsOf (bodyOf f91) = [bodyAt 2 f91] := by kernel_rfl
theorem slices_IndexFunc_Answer.ok : EntryOK Pr 91 slices_IndexFunc_Answer.ent :=
 entry_ok (E := slices_IndexFunc_Answer.E) (EnvOK.of dok slices_IndexFunc_Answer.fok) mixed (fn := f91) (by kernel_rfl) (by kernel_rfl) (by decide) slices_IndexFunc_Answer.ls (by intro l hl; simp only [List.mem_singleton] at hl; subst hl; exact slices_IndexFunc_Answer_l2.lok rfl rfl) slices_IndexFunc_Answer.eq
/-! ### (*loop.example/g00038/impl.Manager).ykept -/
noncomputable def impl_Manager_ykept.E : Env := ⟨D, [], [(91, slices_IndexFunc_Answer.ent)], []⟩
noncomputable def impl_Manager_ykept (a0 : List V1) (a1 : List V2) (a2 : List V5) (a3 : Int) (a4 : Int) (a5 : List V3) (a6 : List V4) (a7 : Int) (a8 : Int) : Option (Int × Unit) :=
 (slices_IndexFunc_Answer a5 a8).bind fun r1 =>
 some (r1.1, ())
noncomputable def impl_Manager_ykept.ent : Entry := ⟨[false, false], [.rop [.val .bor (.slice R1), .val .bor (.slice R2), .val .bor (.slice R5), .val .bor (.int .i64), .val .bor (.int .i64), .val .bor (.slice R3), .val .bor (.slice R4), .val .bor (.int .i64)], .cell (.val .bor (.int .i64))], [.cell (.val .bor (.int .i64))], [], fun v => impl_Manager_ykept v.1 v.2.1 v.2.2.1 v.2.2.2.1 v.2.2.2.2.1 v.2.2.2.2.2.1 v.2.2.2.2.2.2.1 v.2.2.2.2.2.2.2.1 v.2.2.2.2.2.2.2.2.1⟩
theorem impl_Manager_ykept.eq : ∀ v, evFn impl_Manager_ykept.E f60 impl_Manager_ykept.ent.ptrs impl_Manager_ykept.ent.ins impl_Manager_ykept.ent.rets impl_Manager_ykept.ent.outs v = impl_Manager_ykept.ent.f v := by intro v; kernel_rfl
theorem impl_Manager_ykept.fok : ∀ q ∈ [((91 : Nat), slices_IndexFunc_Answer.ent)], EntryOK Pr q.1 q.2 := by
 intro q hq
 simp only [List.mem_cons, List.mem_nil_iff, or_false] at hq
 rcases hq with rfl
 · exact slices_IndexFunc_Answer.ok
theorem impl_Manager_ykept.ls : loopsOf (bodyOf f60) = [] := by kernel_rfl
theorem impl_Manager_ykept.ok : EntryOK Pr 60 impl_Manager_ykept.ent :=
 entry_ok (E := impl_Manager_ykept.E) (EnvOK.of dok impl_Manager_ykept.fok) mixed (fn := f60) (by kernel_rfl) (by kernel_rfl) (by decide) impl_Manager_ykept.ls (by intro l hl; simp at hl) impl_Manager_ykept.eq
/-! ### loop.example/g00038/impl.ManagerFault$1 -/
noncomputable def impl_ManagerFault_1.E : Env := ⟨D, [], [(42, impl_yisName.ent)], []⟩
noncomputable def impl_ManagerFault_1 (a0 : ByteArray) : Option (Bool × Unit) :=
 (impl_yisName a0).bind fun r1 =>
 some (!r1.1, ())
noncomputable def impl_ManagerFault_1.ent : Entry := ⟨[false], [.cell (.val .bor (.str))], [.cell (.val .bor (.bool))], [], fun v => impl_ManagerFault_1 v.1⟩
theorem impl_ManagerFault_1.eq : ∀ v, evFn impl_ManagerFault_1.E f62 impl_ManagerFault_1.ent.ptrs impl_ManagerFault_1.ent.ins impl_ManagerFault_1.ent.rets impl_ManagerFault_1.ent.outs v = impl_ManagerFault_1.ent.f v := by intro v; kernel_rfl
theorem impl_ManagerFault_1.fok : ∀ q ∈ [((42 : Nat), impl_yisName.ent)], EntryOK Pr q.1 q.2 := by
 intro q hq
 simp only [List.mem_cons, List.mem_nil_iff, or_false] at hq
 rcases hq with rfl
 · exact impl_yisName.ok
theorem impl_ManagerFault_1.ls : loopsOf (bodyOf f62) = [] := by kernel_rfl
theorem impl_ManagerFault_1.ok : EntryOK Pr 62 impl_ManagerFault_1.ent :=
 entry_ok (E := impl_ManagerFault_1.E) (EnvOK.of dok impl_ManagerFault_1.fok) mixed (fn := f62) (by kernel_rfl) (by kernel_rfl) (by decide) impl_ManagerFault_1.ls (by intro l hl; simp at hl) impl_ManagerFault_1.eq
/-! ### slices.IndexFunc[[]string,string] -/
noncomputable def slices_IndexFunc_string.E2 : Env := ⟨D, [], [(62, impl_ManagerFault_1.ent)], []⟩
noncomputable def slices_IndexFunc_string_l2_step (rec : List ByteArray → Int → Int → Option ((Int × Unit) ⊕ (Unit))) (y0 : List ByteArray) (y1 : Int) (y2 : Int) : Option ((Int × Unit) ⊕ (Unit)) :=
 bif decide (y2 < y1) then
  (impl_ManagerFault_1 (rd (.str) y0 y2)).bind fun r1 =>
  bif decide (0 ≤ y2) && decide (y2 < (y0.length : Int)) then
   bif r1.1 then
    some (Sum.inl (y2, ()))
   else
    rec y0 y1 (wrap64 (y2 + 1))
  else none
 else
  some (Sum.inr ())
noncomputable def slices_IndexFunc_string_l2 : Nat → List ByteArray → Int → Int → Option ((Int × Unit) ⊕ (Unit))
 | 0 => fun _ _ _ => none
 | n + 1 => slices_IndexFunc_string_l2_step (slices_IndexFunc_string_l2 n)
noncomputable def slices_IndexFunc_string_l2.ent : LEntry := ⟨(.cell (.val .bor (.slice (.str))) :: (.cell (.fix (.clo 62 [])) :: (sk 5 (.cell (.val .bor (.int .i64)) :: (.cell (.val .bor (.int .i64)) :: (sk 10 [])))))), rk 19 [], [], [], [⟨none, sk 4 (.cell (.val .bor (.int .i64)) :: (sk 14 [])), rk 19 [], [], []⟩, ⟨some 0, sk 19 [], rk 19 [], [], []⟩], fun v => slices_IndexFunc_string_l2 K0 v.1 v.2.1 v.2.2.1⟩
theorem slices_IndexFunc_string_l2.eq : ∀ rec v, evStep slices_IndexFunc_string.E2 (bodyAt 2 f93) slices_IndexFunc_string_l2.ent.ins slices_IndexFunc_string_l2.ent.rts slices_IndexFunc_string_l2.ent.hm slices_IndexFunc_string_l2.ent.nl slices_IndexFunc_string_l2.ent.xs rec v = slices_IndexFunc_string_l2_step (fun c0 c1 c2 => rec (c0, c1, c2, ())) v.1 v.2.1 v.2.2.1 := by intro rec v; kernel_rfl
noncomputable def slices_IndexFunc_string.E : Env := ⟨D, [], [(62, impl_ManagerFault_1.ent)], [(2, slices_IndexFunc_string_l2.ent)]⟩
noncomputable def slices_IndexFunc_string (a0 : List ByteArray) : Option (Int × Unit) :=
 (slices_IndexFunc_string_l2 K0 a0 (a0.length : Int) 0).bind fun o2 =>
 match o2 with
 | Sum.inl p3 =>
  some (p3.1, ())
 | Sum.inr p4 =>
  some (-1, ())
noncomputable def slices_IndexFunc_string.ent : Entry := ⟨[false, false], [.cell (.val .bor (.slice (.str))), .clo 62 []], [.cell (.val .bor (.int .i64))], [], fun v => slices_IndexFunc_string v.1⟩
theorem slices_IndexFunc_string.eq : ∀ v, evFn slices_IndexFunc_string.E f93 slices_IndexFunc_string.ent.ptrs slices_IndexFunc_string.ent.ins slices_IndexFunc_string.ent.rets slices_IndexFunc_string.ent.outs v = slices_IndexFunc_string.ent.f v := by intro v; kernel_rfl
theorem slices_IndexFunc_string.fok : ∀ q ∈ [((62 : Nat), impl_ManagerFault_1.ent)], EntryOK Pr q.1 q.2 := by
 intro q hq
 simp only [List.mem_cons, List.mem_nil_iff, or_false] at hq
 rcases hq with rfl
 · exact impl_ManagerFault_1.ok
theorem slices_IndexFunc_string_l2.it : ∀ n v, iter (evStep slices_IndexFunc_string.E2 (bodyAt 2 f93) slices_IndexFunc_string_l2.ent.ins slices_IndexFunc_string_l2.ent.rts slices_IndexFunc_string_l2.ent.hm slices_IndexFunc_string_l2.ent.nl slices_IndexFunc_string_l2.ent.xs) n v = slices_IndexFunc_string_l2 n v.1 v.2.1 v.2.2.1 := by
 intro n
 induction n with
 | zero => intro v; rfl
 | succ n ih =>
  intro v
  show (evStep slices_IndexFunc_string.E2 (bodyAt 2 f93) slices_IndexFunc_string_l2.ent.ins slices_IndexFunc_string_l2.ent.rts slices_IndexFunc_string_l2.ent.hm slices_IndexFunc_string_l2.ent.nl slices_IndexFunc_string_l2.ent.xs) (iter (evStep slices_IndexFunc_string.E2 (bodyAt 2 f93) slices_IndexFunc_string_l2.ent.ins slices_IndexFunc_string_l2.ent.rts slices_IndexFunc_string_l2.ent.hm slices_IndexFunc_string_l2.ent.nl slices_IndexFunc_string_l2.ent.xs) n) v = _
  rw [slices_IndexFunc_string_l2.eq, show (fun c0 c1 c2 => iter (evStep slices_IndexFunc_string.E2 (bodyAt 2 f93) slices_IndexFunc_string_l2.ent.ins slices_IndexFunc_string_l2.ent.rts slices_IndexFunc_string_l2.ent.hm slices_IndexFunc_string_l2.ent.nl slices_IndexFunc_string_l2.ent.xs) n (c0, c1, c2, ())) = slices_IndexFunc_string_l2 n from by funext c0 c1 c2; exact ih _]
  rfl
theorem slices_IndexFunc_string_l2.fr : firstRegion (bodyAt 2 f93) = 2 := by kernel_rfl
theorem slices_IndexFunc_string_l2.ls : loopsOf (bodyAt 2 f93) = [] := by kernel_rfl
theorem slices_IndexFunc_string_l2.lok {E : Env} (hpin : slices_IndexFunc_string.E2.pin = E.pin) (hfind : find 2 E.loops = some slices_IndexFunc_string_l2.ent) : LoopOK Pr E (bodyAt 2 f93) :=
 loop_of (E1 := slices_IndexFunc_string.E2) (EnvOK.of dok slices_IndexFunc_string.fok) mixed hpin (by rw [slices_IndexFunc_string_l2.fr]; exact hfind) slices_IndexFunc_string_l2.ls (by intro l hl; simp at hl) (fun v => (slices_IndexFunc_string_l2.it K0 v).symm)
theorem slices_IndexFunc_string.ls : loopsOf (bodyOf f93) = [bodyAt 2 f93] := by kernel_rfl
theorem slices_IndexFunc_string.ok : EntryOK Pr 93 slices_IndexFunc_string.ent :=
 entry_ok (E := slices_IndexFunc_string.E) (EnvOK.of dok slices_IndexFunc_string.fok) mixed (fn := f93) (by kernel_rfl) (by kernel_rfl) (by decide) slices_IndexFunc_string.ls (by intro l hl; simp only [List.mem_singleton] at hl; subst hl; exact slices_IndexFunc_string_l2.lok rfl rfl) slices_IndexFunc_string.eq
/-! ### slices.ContainsFunc[[]string,string] -/
noncomputable def slices_ContainsFunc_string.E : Env := ⟨D, [], [(93, slices_IndexFunc_string.ent)], []⟩
noncomputable def slices_ContainsFunc_string (a0 : List ByteArray) : Option (Bool × Unit) :=
 (slices_IndexFunc_string a0).bind fun r1 =>
 some (decide (r1.1 ≥ 0), ())
noncomputable def slices_ContainsFunc_string.ent : Entry := ⟨[false, false], [.cell (.val .bor (.slice (.str))), .clo 62 []], [.cell (.val .bor (.bool))], [], fun v => slices_ContainsFunc_string v.1⟩
theorem slices_ContainsFunc_string.eq : ∀ v, evFn slices_ContainsFunc_string.E f61 slices_ContainsFunc_string.ent.ptrs slices_ContainsFunc_string.ent.ins slices_ContainsFunc_string.ent.rets slices_ContainsFunc_string.ent.outs v = slices_ContainsFunc_string.ent.f v := by intro v; kernel_rfl
theorem slices_ContainsFunc_string.fok : ∀ q ∈ [((93 : Nat), slices_IndexFunc_string.ent)], EntryOK Pr q.1 q.2 := by
 intro q hq
 simp only [List.mem_cons, List.mem_nil_iff, or_false] at hq
 rcases hq with rfl
 · exact slices_IndexFunc_string.ok
theorem slices_ContainsFunc_string.ls : loopsOf (bodyOf f61) = [] := by kernel_rfl
theorem slices_ContainsFunc_string.ok : EntryOK Pr 61 slices_ContainsFunc_string.ent :=
 entry_ok (E := slices_ContainsFunc_string.E) (EnvOK.of dok slices_ContainsFunc_string.fok) mixed (fn := f61) (by kernel_rfl) (by kernel_rfl) (by decide) slices_ContainsFunc_string.ls (by intro l hl; simp at hl) slices_ContainsFunc_string.eq
/-! ### loop.example/g00038/impl.ManagerFault -/
noncomputable def impl_ManagerFault.E4 : Env := ⟨D, [], [(12, impl_ClusterFault.ent), (41, impl_yin.ent), (60, impl_Manager_ykept.ent), (42, impl_yisName.ent), (61, slices_ContainsFunc_string.ent)], []⟩
noncomputable def impl_ManagerFault_l4_step (rec : List V3 → Int → Int → List V1 → List V2 → List V5 → Int → Int → List V3 → List V4 → Int → Option ((Int × Unit) ⊕ (List V1 × List V2 × List V5 × Int × Int × List V3 × List V4 × Int × Unit))) (y0 : List V3) (y1 : Int) (y2 : Int) (y3 : List V1) (y4 : List V2) (y5 : List V5) (y6 : Int) (y7 : Int) (y8 : List V3) (y9 : List V4) (y10 : Int) : Option ((Int × Unit) ⊕ (List V1 × List V2 × List V5 × Int × Int × List V3 × List V4 × Int × Unit)) :=
 bif decide (y2 < y1) then
  let e6 : V3 := rd R3 y0 y2
  bif decide (0 ≤ y2) && decide (y2 < (y0.length : Int)) then
   (impl_yin e6.1 1 999999999).bind fun r7 =>
   let b8 : Bool := decide ((e6.2.1.size : Int) > 400)
   let b9 : Bool := decide ((e6.2.2.size : Int) > 400)
   let r10 : Int × Unit := (impl_Manager_ykept y3 y4 y5 y6 y7 y8 y9 y10 e6.1).getD (0, ())
   let b11 : Bool := (((!r7.1 || b8) || b9) || (r10.1 != y2))
   bif (!(!((!r7.1 || b8) || b9)) || ((impl_Manager_ykept y3 y4 y5 y6 y7 y8 y9 y10 e6.1).isSome)) then
    bif b11 then
     some (Sum.inl (1, ()))
    else
     rec y0 y1 (wrap64 (y2 + 1)) y3 y4 y5 y6 y7 y8 y9 y10
   else none
  else none
 else
  some (Sum.inr (y3, y4, y5, y6, y7, y8, y9, y10, ()))
noncomputable def impl_ManagerFault_l4 : Nat → List V3 → Int → Int → List V1 → List V2 → List V5 → Int → Int → List V3 → List V4 → Int → Option ((Int × Unit) ⊕ (List V1 × List V2 × List V5 × Int × Int × List V3 × List V4 × Int × Unit))
 | 0 => fun _ _ _ _ _ _ _ _ _ _ _ => none
 | n + 1 => impl_ManagerFault_l4_step (impl_ManagerFault_l4 n)
noncomputable def impl_ManagerFault_l4.ent : LEntry := ⟨sk 1 (.cell (.fix (.ptr 1 0)) :: (sk 28 (.cell (.val .bor (.slice R3)) :: (.cell (.val .bor (.int .i64)) :: (.cell (.val .bor (.int .i64)) :: (sk 89 [])))))), rk 1 ([.val .bor (.slice R1), .val .bor (.slice R2), .val .bor (.slice R5), .val .bor (.int .i64), .val .bor (.int .i64), .val .bor (.slice R3), .val .bor (.slice R4), .val .bor (.int .i64)] :: (rk 120 [])), [], [], [⟨none, sk 2 (.cell (.val .bor (.int .i64)) :: (sk 119 [])), rk 122 [], [], []⟩, ⟨some 0, sk 1 (.cell (.fix (.ptr 1 0)) :: (sk 120 [])), rk 1 ([.val .bor (.slice R1), .val .bor (.slice R2), .val .bor (.slice R5), .val .bor (.int .i64), .val .bor (.int .i64), .val .bor (.slice R3), .val .bor (.slice R4), .val .bor (.int .i64)] :: (rk 120 [])), [], []⟩], fun v => impl_ManagerFault_l4 K0 v.1 v.2.1 v.2.2.1 v.2.2.2.1 v.2.2.2.2.1 v.2.2.2.2.2.1 v.2.2.2.2.2.2.1 v.2.2.2.2.2.2.2.1 v.2.2.2.2.2.2.2.2.1 v.2.2.2.2.2.2.2.2.2.1 v.2.2.2.2.2.2.2.2.2.2.1⟩
theorem impl_ManagerFault_l4.eq : ∀ rec v, evStep impl_ManagerFault.E4 (bodyAt 4 f23) impl_ManagerFault_l4.ent.ins impl_ManagerFault_l4.ent.rts impl_ManagerFault_l4.ent.hm impl_ManagerFault_l4.ent.nl impl_ManagerFault_l4.ent.xs rec v = impl_ManagerFault_l4_step (fun c0 c1 c2 c3 c4 c5 c6 c7 c8 c9 c10 => rec (c0, c1, c2, c3, c4, c5, c6, c7, c8, c9, c10, ())) v.1 v.2.1 v.2.2.1 v.2.2.2.1 v.2.2.2.2.1 v.2.2.2.2.2.1 v.2.2.2.2.2.2.1 v.2.2.2.2.2.2.2.1 v.2.2.2.2.2.2.2.2.1 v.2.2.2.2.2.2.2.2.2.1 v.2.2.2.2.2.2.2.2.2.2.1 := by intro rec v; kernel_rfl
noncomputable def impl_ManagerFault.E10 : Env := ⟨D, [], [(12, impl_ClusterFault.ent), (41, impl_yin.ent), (60, impl_Manager_ykept.ent), (42, impl_yisName.ent), (61, slices_ContainsFunc_string.ent)], [(4, impl_ManagerFault_l4.ent)]⟩
noncomputable def impl_ManagerFault_l10_step (rec : List V4 → Int → Int → List V1 → List V2 → List V5 → Int → Int → List V3 → List V4 → Int → Option ((Int × Unit) ⊕ (Unit))) (y0 : List V4) (y1 : Int) (y2 : Int) (y3 : List V1) (y4 : List V2) (y5 : List V5) (y6 : Int) (y7 : Int) (y8 : List V3) (y9 : List V4) (y10 : Int) : Option ((Int × Unit) ⊕ (Unit)) :=
 bif decide (y2 < y1) then
  let e15 : V4 := rd R4 y0 y2
  bif decide (0 ≤ y2) && decide (y2 < (y0.length : Int)) then
   let r16 : Bool × Unit := (impl_yin e15.1 1 (wrap64 (y10 - 1))).getD (false, ())
   let e17 : V4 := rd R4 y9 (wrap64 (y2 - 1))
   let b18 : Bool := (decide (y2 > 0) && decide (e17.1 ≥ e15.1))
   let r19 : Bool × Unit := (impl_yisName e15.2.1).getD (false, ())
   let b20 : Bool := ((!r16.1 || b18) || !r19.1)
   let b21 : Bool := decide ((e15.2.2.1.length : Int) > 30)
   let r22 : Bool × Unit := (slices_ContainsFunc_string e15.2.2.1).getD (false, ())
   let r23 : Bool × Unit := (impl_yin e15.2.2.2.1 0 1099511627776).getD (false, ())
   let b24 : Bool := (((b20 || b21) || r22.1) || !r23.1)
   let r25 : Bool × Unit := (impl_yin e15.2.2.2.2 0 3).getD (false, ())
   bif ((impl_yin e15.1 1 (wrap64 (y10 - 1))).isSome) && ((!(!(!r16.1) && decide (y2 > 0)) || (decide (0 ≤ (wrap64 (y2 - 1))) && decide ((wrap64 (y2 - 1)) < (y9.length : Int)))) && ((!(!(!r16.1 || b18)) || ((impl_yisName e15.2.1).isSome)) && ((!(!(b20 || b21)) || ((slices_ContainsFunc_string e15.2.2.1).isSome)) && ((!(!((b20 || b21) || r22.1)) || ((impl_yin e15.2.2.2.1 0 1099511627776).isSome)) && (!(!b24) || ((impl_yin e15.2.2.2.2 0 3).isSome)))))) then
    bif (b24 || !r25.1) then
     some (Sum.inl (1, ()))
    else
     rec y0 y1 (wrap64 (y2 + 1)) y3 y4 y5 y6 y7 y8 y9 y10
   else none
  else none
 else
  some (Sum.inr ())
noncomputable def impl_ManagerFault_l10 : Nat → List V4 → Int → Int → List V1 → List V2 → List V5 → Int → Int → List V3 → List V4 → Int → Option ((Int × Unit) ⊕ (Unit))
 | 0 => fun _ _ _ _ _ _ _ _ _ _ _ => none
 | n + 1 => impl_ManagerFault_l10_step (impl_ManagerFault_l10 n)
noncomputable def impl_ManagerFault_l10.ent : LEntry := ⟨sk 1 (.cell (.fix (.ptr 1 0)) :: (sk 60 (.cell (.val .bor (.slice R4)) :: (.cell (.val .bor (.int .i64)) :: (.cell (.val .bor (.int .i64)) :: (sk 57 [])))))), rk 1 ([.val .bor (.slice R1), .val .bor (.slice R2), .val .bor (.slice R5), .val .bor (.int .i64), .val .bor (.int .i64), .val .bor (.slice R3), .val .bor (.slice R4), .val .bor (.int .i64)] :: (rk 120 [])), [], [], [⟨none, sk 2 (.cell (.val .bor (.int .i64)) :: (sk 119 [])), rk 122 [], [], []⟩, ⟨some 2, sk 122 [], rk 122 [], [], []⟩], fun v => impl_ManagerFault_l10 K0 v.1 v.2.1 v.2.2.1 v.2.2.2.1 v.2.2.2.2.1 v.2.2.2.2.2.1 v.2.2.2.2.2.2.1 v.2.2.2.2.2.2.2.1 v.2.2.2.2.2.2.2.2.1 v.2.2.2.2.2.2.2.2.2.1 v.2.2.2.2.2.2.2.2.2.2.1⟩
theorem impl_ManagerFault_l10.eq : ∀ rec v, evStep impl_ManagerFault.E10 (bodyAt 10 f23) impl_ManagerFault_l10.ent.ins impl_ManagerFault_l10.ent.rts impl_ManagerFault_l10.ent.hm impl_ManagerFault_l10.ent.nl impl_ManagerFault_l10.ent.xs rec v = impl_ManagerFault_l10_step (fun c0 c1 c2 c3 c4 c5 c6 c7 c8 c9 c10 => rec (c0, c1, c2, c3, c4, c5, c6, c7, c8, c9, c10, ())) v.1 v.2.1 v.2.2.1 v.2.2.2.1 v.2.2.2.2.1 v.2.2.2.2.2.1 v.2.2.2.2.2.2.1 v.2.2.2.2.2.2.2.1 v.2.2.2.2.2.2.2.2.1 v.2.2.2.2.2.2.2.2.2.1 v.2.2.2.2.2.2.2.2.2.2.1 := by intro rec v; kernel_rfl
noncomputable def impl_ManagerFault.E : Env := ⟨D, [], [(12, impl_ClusterFault.ent), (41, impl_yin.ent), (60, impl_Manager_ykept.ent), (42, impl_yisName.ent), (61, slices_ContainsFunc_string.ent)], [(4, impl_ManagerFault_l4.ent), (10, impl_ManagerFault_l10.ent)]⟩
noncomputable def impl_ManagerFault (a0 : List V1) (a1 : List V2) (a2 : List V5) (a3 : Int) (a4 : Int) (a5 : List V3) (a6 : List V4) (a7 : Int) : Option (Int × Unit) :=
 (impl_ClusterFault a0 a1 a2 a3 a4).bind fun r1 =>
 let b2 : Bool := decide ((a5.length : Int) > 20)
 let b3 : Bool := decide ((a6.length : Int) > 20)
 let b4 : Bool := (((r1.1 != 0) || b2) || b3)
 let r5 : Bool × Unit := (impl_yin a7 1 1099511627776).getD (false, ())
 bif (!(!b4) || ((impl_yin a7 1 1099511627776).isSome)) then
  bif (b4 || !r5.1) then
   some (1, ())
  else
   (impl_ManagerFault_l4 K0 a5 (a5.length : Int) 0 a0 a1 a2 a3 a4 a5 a6 a7).bind fun o12 =>
   match o12 with
   | Sum.inl p13 =>
    some (p13.1, ())
   | Sum.inr p14 =>
    (impl_ManagerFault_l10 K0 p14.2.2.2.2.2.2.1 (p14.2.2.2.2.2.2.1.length : Int) 0 p14.1 p14.2.1 p14.2.2.1 p14.2.2.2.1 p14.2.2.2.2.1 p14.2.2.2.2.2.1 p14.2.2.2.2.2.2.1 p14.2.2.2.2.2.2.2.1).bind fun o26 =>
    match o26 with
    | Sum.inl p27 =>
     some (p27.1, ())
    | Sum.inr p28 =>
     some (0, ())
 else none
noncomputable def impl_ManagerFault.ent : Entry := ⟨[false], [.agg [.val .bor (.slice R1), .val .bor (.slice R2), .val .bor (.slice R5), .val .bor (.int .i64), .val .bor (.int .i64), .val .bor (.slice R3), .val .bor (.slice R4), .val .bor (.int .i64)]], [.cell (.val .bor (.int .i64))], [], fun v => impl_ManagerFault v.1 v.2.1 v.2.2.1 v.2.2.2.1 v.2.2.2.2.1 v.2.2.2.2.2.1 v.2.2.2.2.2.2.1 v.2.2.2.2.2.2.2.1⟩
theorem impl_ManagerFault.eq : ∀ v, evFn impl_ManagerFault.E f23 impl_ManagerFault.ent.ptrs impl_ManagerFault.ent.ins impl_ManagerFault.ent.rets impl_ManagerFault.ent.outs v = impl_ManagerFault.ent.f v := by intro v; kernel_rfl
theorem impl_ManagerFault.fok : ∀ q ∈ [((12 : Nat), impl_ClusterFault.ent), ((41 : Nat), impl_yin.ent), ((60 : Nat), impl_Manager_ykept.ent), ((42 : Nat), impl_yisName.ent), ((61 : Nat), slices_ContainsFunc_string.ent)], EntryOK Pr q.1 q.2 := by
 intro q hq
 simp only [List.mem_cons, List.mem_nil_iff, or_false] at hq
 rcases hq with rfl | rfl | rfl | rfl | rfl
 · exact impl_ClusterFault.ok
 · exact impl_yin.ok
 · exact impl_Manager_ykept.ok
 · exact impl_yisName.ok
 · exact slices_ContainsFunc_string.ok
theorem impl_ManagerFault_l4.it : ∀ n v, iter (evStep impl_ManagerFault.E4 (bodyAt 4 f23) impl_ManagerFault_l4.ent.ins impl_ManagerFault_l4.ent.rts impl_ManagerFault_l4.ent.hm impl_ManagerFault_l4.ent.nl impl_ManagerFault_l4.ent.xs) n v = impl_ManagerFault_l4 n v.1 v.2.1 v.2.2.1 v.2.2.2.1 v.2.2.2.2.1 v.2.2.2.2.2.1 v.2.2.2.2.2.2.1 v.2.2.2.2.2.2.2.1 v.2.2.2.2.2.2.2.2.1 v.2.2.2.2.2.2.2.2.2.1 v.2.2.2.2.2.2.2.2.2.2.1 := by
 intro n
 induction n with
 | zero => intro v; rfl
 | succ n ih =>
  intro v
  show (evStep impl_ManagerFault.E4 (bodyAt 4 f23) impl_ManagerFault_l4.ent.ins impl_ManagerFault_l4.ent.rts impl_ManagerFault_l4.ent.hm impl_ManagerFault_l4.ent.nl impl_ManagerFault_l4.ent.xs) (iter (evStep impl_ManagerFault.E4 (bodyAt 4 f23) impl_ManagerFault_l4.ent.ins impl_ManagerFault_l4.ent.rts impl_ManagerFault_l4.ent.hm impl_ManagerFault_l4.ent.nl impl_ManagerFault_l4.ent.xs) n) v = _
  rw [impl_ManagerFault_l4.eq, show (fun c0 c1 c2 c3 c4 c5 c6 c7 c8 c9 c10 => iter (evStep impl_ManagerFault.E4 (bodyAt 4 f23) impl_ManagerFault_l4.ent.ins impl_ManagerFault_l4.ent.rts impl_ManagerFault_l4.ent.hm impl_ManagerFault_l4.ent.nl impl_ManagerFault_l4.ent.xs) n (c0, c1, c2, c3, c4, c5, c6, c7, c8, c9, c10, ())) = impl_ManagerFault_l4 n from by funext c0 c1 c2 c3 c4 c5 c6 c7 c8 c9 c10; exact ih _]
  rfl
theorem impl_ManagerFault_l4.fr : firstRegion (bodyAt 4 f23) = 4 := by kernel_rfl
theorem impl_ManagerFault_l4.ls : loopsOf (bodyAt 4 f23) = [] := by kernel_rfl
theorem impl_ManagerFault_l4.lok {E : Env} (hpin : impl_ManagerFault.E4.pin = E.pin) (hfind : find 4 E.loops = some impl_ManagerFault_l4.ent) : LoopOK Pr E (bodyAt 4 f23) :=
 loop_of (E1 := impl_ManagerFault.E4) (EnvOK.of dok impl_ManagerFault.fok) mixed hpin (by rw [impl_ManagerFault_l4.fr]; exact hfind) impl_ManagerFault_l4.ls (by intro l hl; simp at hl) (fun v => (impl_ManagerFault_l4.it K0 v).symm)
theorem impl_ManagerFault_l10.it : ∀ n v, iter (evStep impl_ManagerFault.E10 (bodyAt 10 f23) impl_ManagerFault_l10.ent.ins impl_ManagerFault_l10.ent.rts impl_ManagerFault_l10.ent.hm impl_ManagerFault_l10.ent.nl impl_ManagerFault_l10.ent.xs) n v = impl_ManagerFault_l10 n v.1 v.2.1 v.2.2.1 v.2.2.2.1 v.2.2.2.2.1 v.2.2.2.2.2.1 v.2.2.2.2.2.2.1 v.2.2.2.2.2.2.2.1 v.2.2.2.2.2.2.2.2.1 v.2.2.2.2.2.2.2.2.2.1 v.2.2.2.2.2.2.2.2.2.2.1 := by
 intro n
 induction n with
 | zero => intro v; rfl
 | succ n ih =>
  intro v
  show (evStep impl_ManagerFault.E10 (bodyAt 10 f23) impl_ManagerFault_l10.ent.ins impl_ManagerFault_l10.ent.rts impl_ManagerFault_l10.ent.hm impl_ManagerFault_l10.ent.nl impl_ManagerFault_l10.ent.xs) (iter (evStep impl_ManagerFault.E10 (bodyAt 10 f23) impl_ManagerFault_l10.ent.ins impl_ManagerFault_l10.ent.rts impl_ManagerFault_l10.ent.hm impl_ManagerFault_l10.ent.nl impl_ManagerFault_l10.ent.xs) n) v = _
  rw [impl_ManagerFault_l10.eq, show (fun c0 c1 c2 c3 c4 c5 c6 c7 c8 c9 c10 => iter (evStep impl_ManagerFault.E10 (bodyAt 10 f23) impl_ManagerFault_l10.ent.ins impl_ManagerFault_l10.ent.rts impl_ManagerFault_l10.ent.hm impl_ManagerFault_l10.ent.nl impl_ManagerFault_l10.ent.xs) n (c0, c1, c2, c3, c4, c5, c6, c7, c8, c9, c10, ())) = impl_ManagerFault_l10 n from by funext c0 c1 c2 c3 c4 c5 c6 c7 c8 c9 c10; exact ih _]
  rfl
theorem impl_ManagerFault_l10.fr : firstRegion (bodyAt 10 f23) = 10 := by kernel_rfl
theorem impl_ManagerFault_l10.ls : loopsOf (bodyAt 10 f23) = [] := by kernel_rfl
theorem impl_ManagerFault_l10.lok {E : Env} (hpin : impl_ManagerFault.E10.pin = E.pin) (hfind : find 10 E.loops = some impl_ManagerFault_l10.ent) : LoopOK Pr E (bodyAt 10 f23) :=
 loop_of (E1 := impl_ManagerFault.E10) (EnvOK.of dok impl_ManagerFault.fok) mixed hpin (by rw [impl_ManagerFault_l10.fr]; exact hfind) impl_ManagerFault_l10.ls (by intro l hl; simp at hl) (fun v => (impl_ManagerFault_l10.it K0 v).symm)
theorem impl_ManagerFault.ls : loopsOf (bodyOf f23) = [bodyAt 4 f23, bodyAt 10 f23] := by kernel_rfl
theorem impl_ManagerFault.ok : EntryOK Pr 23 impl_ManagerFault.ent :=
 entry_ok (E := impl_ManagerFault.E) (EnvOK.of dok impl_ManagerFault.fok) mixed (fn := f23) (by kernel_rfl) (by kernel_rfl) (by decide) impl_ManagerFault.ls (by
  intro l hl
  simp only [List.mem_cons, List.mem_nil_iff, or_false] at hl
  rcases hl with rfl | rfl
  · exact impl_ManagerFault_l4.lok rfl rfl
  · exact impl_ManagerFault_l10.lok rfl rfl) impl_ManagerFault.eq
/-! ### loop.example/g00038/laws.eqNode -/
noncomputable def laws_eqNode.E : Env := ⟨D, [], [], []⟩
noncomputable def laws_eqNode (a0 : ByteArray) (a1 : Int) (a2 : Int) (a3 : Int) (a4 : Int) (a5 : Bool) (a6 : Bool) (a7 : ByteArray) (a8 : Int) (a9 : Int) (a10 : Int) (a11 : Int) (a12 : Bool) (a13 : Bool) : Option (Bool × Unit) :=
 bif !seq a0 a7 then
  some (false, ())
 else
 bif (a1 != a8) then
  some (false, ())
 else
 bif (a2 != a9) then
  some (false, ())
 else
 bif (a3 != a10) then
  some (false, ())
 else
 bif (a4 != a11) then
  some (false, ())
 else
 bif !(a5 == a12) then
  some (false, ())
 else
 bif !(a6 == a13) then
  some (false, ())
 else
  some (true, ())
noncomputable def laws_eqNode.ent : Entry := ⟨[false, false], [.agg [.val .bor (.str), .val .bor (.int .i64), .val .bor (.int .i64), .val .bor (.int .i64), .val .bor (.int .i64), .val .bor (.bool), .val .bor (.bool)], .agg [.val .bor (.str), .val .bor (.int .i64), .val .bor (.int .i64), .val .bor (.int .i64), .val .bor (.int .i64), .val .bor (.bool), .val .bor (.bool)]], [.cell (.val .bor (.bool))], [], fun v => laws_eqNode v.1 v.2.1 v.2.2.1 v.2.2.2.1 v.2.2.2.2.1 v.2.2.2.2.2.1 v.2.2.2.2.2.2.1 v.2.2.2.2.2.2.2.1 v.2.2.2.2.2.2.2.2.1 v.2.2.2.2.2.2.2.2.2.1 v.2.2.2.2.2.2.2.2.2.2.1 v.2.2.2.2.2.2.2.2.2.2.2.1 v.2.2.2.2.2.2.2.2.2.2.2.2.1 v.2.2.2.2.2.2.2.2.2.2.2.2.2.1⟩
theorem laws_eqNode.eq : ∀ v, evFn laws_eqNode.E f81 laws_eqNode.ent.ptrs laws_eqNode.ent.ins laws_eqNode.ent.rets laws_eqNode.ent.outs v = laws_eqNode.ent.f v := by intro v; kernel_rfl
theorem laws_eqNode.fok : ∀ q ∈ ([] : List (Nat × Entry)), EntryOK Pr q.1 q.2 := by intro q hq; simp at hq
theorem laws_eqNode.ls : loopsOf (bodyOf f81) = [] := by kernel_rfl
theorem laws_eqNode.ok : EntryOK Pr 81 laws_eqNode.ent :=
 entry_ok (E := laws_eqNode.E) (EnvOK.of dok laws_eqNode.fok) mixed (fn := f81) (by kernel_rfl) (by kernel_rfl) (by decide) laws_eqNode.ls (by intro l hl; simp at hl) laws_eqNode.eq
/-! ### loop.example/g00038/laws.eqNodeS -/
noncomputable def laws_eqNodeS.E4 : Env := ⟨D, [], [(81, laws_eqNode.ent)], []⟩
noncomputable def laws_eqNodeS_l4_step (rec : List V1 → List V1 → Int → Option ((Bool × Unit) ⊕ (Unit))) (y0 : List V1) (y1 : List V1) (y2 : Int) : Option ((Bool × Unit) ⊕ (Unit)) :=
 let b2 : Bool := decide (y2 < (y0.length : Int))
 bif b2 then
  let e3 : V1 := rd R1 y0 y2
  let e4 : V1 := rd R1 y1 y2
  (laws_eqNode e3.1 e3.2.1 e3.2.2.1 e3.2.2.2.1 e3.2.2.2.2.1 e3.2.2.2.2.2.1 e3.2.2.2.2.2.2 e4.1 e4.2.1 e4.2.2.1 e4.2.2.2.1 e4.2.2.2.2.1 e4.2.2.2.2.2.1 e4.2.2.2.2.2.2).bind fun r5 =>
  bif (decide (0 ≤ y2) && decide (y2 < (y0.length : Int))) && (decide (0 ≤ y2) && decide (y2 < (y1.length : Int))) then
   bif !r5.1 then
    some (Sum.inl (false, ()))
   else
    rec y0 y1 (wrap64 (y2 + 1))
  else none
 else
  some (Sum.inr ())
noncomputable def laws_eqNodeS_l4 : Nat → List V1 → List V1 → Int → Option ((Bool × Unit) ⊕ (Unit))
 | 0 => fun _ _ _ => none
 | n + 1 => laws_eqNodeS_l4_step (laws_eqNodeS_l4 n)
noncomputable def laws_eqNodeS_l4.ent : LEntry := ⟨(.cell (.val .bor (.slice R1)) :: (.cell (.val .bor (.slice R1)) :: (sk 3 (.cell (.val .bor (.int .i64)) :: (sk 21 []))))), rk 27 [], [], [], [⟨none, sk 4 (.cell (.val .bor (.bool)) :: (sk 22 [])), rk 27 [], [], []⟩, ⟨some 0, sk 27 [], rk 27 [], [], []⟩], fun v => laws_eqNodeS_l4 K0 v.1 v.2.1 v.2.2.1⟩
theorem laws_eqNodeS_l4.eq : ∀ rec v, evStep laws_eqNodeS.E4 (bodyAt 4 f47) laws_eqNodeS_l4.ent.ins laws_eqNodeS_l4.ent.rts laws_eqNodeS_l4.ent.hm laws_eqNodeS_l4.ent.nl laws_eqNodeS_l4.ent.xs rec v = laws_eqNodeS_l4_step (fun c0 c1 c2 => rec (c0, c1, c2, ())) v.1 v.2.1 v.2.2.1 := by intro rec v; kernel_rfl
noncomputable def laws_eqNodeS.E : Env := ⟨D, [], [(81, laws_eqNode.ent)], [(4, laws_eqNodeS_l4.ent)]⟩
noncomputable def laws_eqNodeS (a0 : List V1) (a1 : List V1) : Option (Bool × Unit) :=
 let b1 : Bool := ((a0.length : Int) != (a1.length : Int))
 bif b1 then
  some (false, ())
 else
  (laws_eqNodeS_l4 K0 a0 a1 0).bind fun o6 =>
  match o6 with
  | Sum.inl p7 =>
   some (p7.1, ())
  | Sum.inr p8 =>
   some (true, ())
noncomputable def laws_eqNodeS.ent : Entry := ⟨[false, false], [.cell (.val .bor (.slice R1)), .cell (.val .bor (.slice R1))], [.cell (.val .bor (.bool))], [], fun v => laws_eqNodeS v.1 v.2.1⟩
theorem laws_eqNodeS.eq : ∀ v, evFn laws_eqNodeS.E f47 laws_eqNodeS.ent.ptrs laws_eqNodeS.ent.ins laws_eqNodeS.ent.rets laws_eqNodeS.ent.outs v = laws_eqNodeS.ent.f v := by intro v; kernel_rfl
theorem laws_eqNodeS.fok : ∀ q ∈ [((81 : Nat), laws_eqNode.ent)], EntryOK Pr q.1 q.2 := by
 intro q hq
 simp only [List.mem_cons, List.mem_nil_iff, or_false] at hq
 rcases hq with rfl
 · exact laws_eqNode.ok
theorem laws_eqNodeS_l4.it : ∀ n v, iter (evStep laws_eqNodeS.E4 (bodyAt 4 f47) laws_eqNodeS_l4.ent.ins laws_eqNodeS_l4.ent.rts laws_eqNodeS_l4.ent.hm laws_eqNodeS_l4.ent.nl laws_eqNodeS_l4.ent.xs) n v = laws_eqNodeS_l4 n v.1 v.2.1 v.2.2.1 := by
 intro n
 induction n with
 | zero => intro v; rfl
 | succ n ih =>
  intro v
  show (evStep laws_eqNodeS.E4 (bodyAt 4 f47) laws_eqNodeS_l4.ent.ins laws_eqNodeS_l4.ent.rts laws_eqNodeS_l4.ent.hm laws_eqNodeS_l4.ent.nl laws_eqNodeS_l4.ent.xs) (iter (evStep laws_eqNodeS.E4 (bodyAt 4 f47) laws_eqNodeS_l4.ent.ins laws_eqNodeS_l4.ent.rts laws_eqNodeS_l4.ent.hm laws_eqNodeS_l4.ent.nl laws_eqNodeS_l4.ent.xs) n) v = _
  rw [laws_eqNodeS_l4.eq, show (fun c0 c1 c2 => iter (evStep laws_eqNodeS.E4 (bodyAt 4 f47) laws_eqNodeS_l4.ent.ins laws_eqNodeS_l4.ent.rts laws_eqNodeS_l4.ent.hm laws_eqNodeS_l4.ent.nl laws_eqNodeS_l4.ent.xs) n (c0, c1, c2, ())) = laws_eqNodeS_l4 n from by funext c0 c1 c2; exact ih _]
  rfl
theorem laws_eqNodeS_l4.fr : firstRegion (bodyAt 4 f47) = 4 := by kernel_rfl
theorem laws_eqNodeS_l4.ls : loopsOf (bodyAt 4 f47) = [] := by kernel_rfl
theorem laws_eqNodeS_l4.lok {E : Env} (hpin : laws_eqNodeS.E4.pin = E.pin) (hfind : find 4 E.loops = some laws_eqNodeS_l4.ent) : LoopOK Pr E (bodyAt 4 f47) :=
 loop_of (E1 := laws_eqNodeS.E4) (EnvOK.of dok laws_eqNodeS.fok) mixed hpin (by rw [laws_eqNodeS_l4.fr]; exact hfind) laws_eqNodeS_l4.ls (by intro l hl; simp at hl) (fun v => (laws_eqNodeS_l4.it K0 v).symm)
theorem laws_eqNodeS.ls : loopsOf (bodyOf f47) = [bodyAt 4 f47] := by kernel_rfl
theorem laws_eqNodeS.ok : EntryOK Pr 47 laws_eqNodeS.ent :=
 entry_ok (E := laws_eqNodeS.E) (EnvOK.of dok laws_eqNodeS.fok) mixed (fn := f47) (by kernel_rfl) (by kernel_rfl) (by decide) laws_eqNodeS.ls (by intro l hl; simp only [List.mem_singleton] at hl; subst hl; exact laws_eqNodeS_l4.lok rfl rfl) laws_eqNodeS.eq
/-! ### loop.example/g00038/laws.eqVm -/
noncomputable def laws_eqVm.E : Env := ⟨D, [], [], []⟩
noncomputable def laws_eqVm (a0 : ByteArray) (a1 : Int) (a2 : Int) (a3 : Int) (a4 : Int) (a5 : Int) (a6 : ByteArray) (a7 : Int) (a8 : ByteArray) (a9 : Int) (a10 : Int) (a11 : Int) (a12 : Int) (a13 : Int) (a14 : ByteArray) (a15 : Int) : Option (Bool × Unit) :=
 bif !seq a0 a8 then
  some (false, ())
 else
 bif (a1 != a9) then
  some (false, ())
 else
 bif (a2 != a10) then
  some (false, ())
 else
 bif (a3 != a11) then
  some (false, ())
 else
 bif (a4 != a12) then
  some (false, ())
 else
 bif (a5 != a13) then
  some (false, ())
 else
 bif !seq a6 a14 then
  some (false, ())
 else
 bif (a7 != a15) then
  some (false, ())
 else
  some (true, ())
noncomputable def laws_eqVm.ent : Entry := ⟨[false, false], [.agg [.val .bor (.str), .val .bor (.int .i64), .val .bor (.int .i64), .val .bor (.int .i64), .val .bor (.int .i64), .val .bor (.int .i64), .val .bor (.str), .val .bor (.int .i64)], .agg [.val .bor (.str), .val .bor (.int .i64), .val .bor (.int .i64), .val .bor (.int .i64), .val .bor (.int .i64), .val .bor (.int .i64), .val .bor (.str), .val .bor (.int .i64)]], [.cell (.val .bor (.bool))], [], fun v => laws_eqVm v.1 v.2.1 v.2.2.1 v.2.2.2.1 v.2.2.2.2.1 v.2.2.2.2.2.1 v.2.2.2.2.2.2.1 v.2.2.2.2.2.2.2.1 v.2.2.2.2.2.2.2.2.1 v.2.2.2.2.2.2.2.2.2.1 v.2.2.2.2.2.2.2.2.2.2.1 v.2.2.2.2.2.2.2.2.2.2.2.1 v.2.2.2.2.2.2.2.2.2.2.2.2.1 v.2.2.2.2.2.2.2.2.2.2.2.2.2.1 v.2.2.2.2.2.2.2.2.2.2.2.2.2.2.1 v.2.2.2.2.2.2.2.2.2.2.2.2.2.2.2.1⟩
theorem laws_eqVm.eq : ∀ v, evFn laws_eqVm.E f82 laws_eqVm.ent.ptrs laws_eqVm.ent.ins laws_eqVm.ent.rets laws_eqVm.ent.outs v = laws_eqVm.ent.f v := by intro v; kernel_rfl
theorem laws_eqVm.fok : ∀ q ∈ ([] : List (Nat × Entry)), EntryOK Pr q.1 q.2 := by intro q hq; simp at hq
theorem laws_eqVm.ls : loopsOf (bodyOf f82) = [] := by kernel_rfl
theorem laws_eqVm.ok : EntryOK Pr 82 laws_eqVm.ent :=
 entry_ok (E := laws_eqVm.E) (EnvOK.of dok laws_eqVm.fok) mixed (fn := f82) (by kernel_rfl) (by kernel_rfl) (by decide) laws_eqVm.ls (by intro l hl; simp at hl) laws_eqVm.eq
/-! ### loop.example/g00038/laws.eqVmS -/
noncomputable def laws_eqVmS.E4 : Env := ⟨D, [], [(82, laws_eqVm.ent)], []⟩
noncomputable def laws_eqVmS_l4_step (rec : List V2 → List V2 → Int → Option ((Bool × Unit) ⊕ (Unit))) (y0 : List V2) (y1 : List V2) (y2 : Int) : Option ((Bool × Unit) ⊕ (Unit)) :=
 let b2 : Bool := decide (y2 < (y0.length : Int))
 bif b2 then
  let e3 : V2 := rd R2 y0 y2
  let e4 : V2 := rd R2 y1 y2
  (laws_eqVm e3.1 e3.2.1 e3.2.2.1 e3.2.2.2.1 e3.2.2.2.2.1 e3.2.2.2.2.2.1 e3.2.2.2.2.2.2.1 e3.2.2.2.2.2.2.2 e4.1 e4.2.1 e4.2.2.1 e4.2.2.2.1 e4.2.2.2.2.1 e4.2.2.2.2.2.1 e4.2.2.2.2.2.2.1 e4.2.2.2.2.2.2.2).bind fun r5 =>
  bif (decide (0 ≤ y2) && decide (y2 < (y0.length : Int))) && (decide (0 ≤ y2) && decide (y2 < (y1.length : Int))) then
   bif !r5.1 then
    some (Sum.inl (false, ()))
   else
    rec y0 y1 (wrap64 (y2 + 1))
  else none
 else
  some (Sum.inr ())
noncomputable def laws_eqVmS_l4 : Nat → List V2 → List V2 → Int → Option ((Bool × Unit) ⊕ (Unit))
 | 0 => fun _ _ _ => none
 | n + 1 => laws_eqVmS_l4_step (laws_eqVmS_l4 n)
noncomputable def laws_eqVmS_l4.ent : LEntry := ⟨(.cell (.val .bor (.slice R2)) :: (.cell (.val .bor (.slice R2)) :: (sk 3 (.cell (.val .bor (.int .i64)) :: (sk 21 []))))), rk 27 [], [], [], [⟨none, sk 4 (.cell (.val .bor (.bool)) :: (sk 22 [])), rk 27 [], [], []⟩, ⟨some 0, sk 27 [], rk 27 [], [], []⟩], fun v => laws_eqVmS_l4 K0 v.1 v.2.1 v.2.2.1⟩
theorem laws_eqVmS_l4.eq : ∀ rec v, evStep laws_eqVmS.E4 (bodyAt 4 f48) laws_eqVmS_l4.ent.ins laws_eqVmS_l4.ent.rts laws_eqVmS_l4.ent.hm laws_eqVmS_l4.ent.nl laws_eqVmS_l4.ent.xs rec v = laws_eqVmS_l4_step (fun c0 c1 c2 => rec (c0, c1, c2, ())) v.1 v.2.1 v.2.2.1 := by intro rec v; kernel_rfl
noncomputable def laws_eqVmS.E : Env := ⟨D, [], [(82, laws_eqVm.ent)], [(4, laws_eqVmS_l4.ent)]⟩
noncomputable def laws_eqVmS (a0 : List V2) (a1 : List V2) : Option (Bool × Unit) :=
 let b1 : Bool := ((a0.length : Int) != (a1.length : Int))
 bif b1 then
  some (false, ())
 else
  (laws_eqVmS_l4 K0 a0 a1 0).bind fun o6 =>
  match o6 with
  | Sum.inl p7 =>
   some (p7.1, ())
  | Sum.inr p8 =>
   some (true, ())
noncomputable def laws_eqVmS.ent : Entry := ⟨[false, false], [.cell (.val .bor (.slice R2)), .cell (.val .bor (.slice R2))], [.cell (.val .bor (.bool))], [], fun v => laws_eqVmS v.1 v.2.1⟩
theorem laws_eqVmS.eq : ∀ v, evFn laws_eqVmS.E f48 laws_eqVmS.ent.ptrs laws_eqVmS.ent.ins laws_eqVmS.ent.rets laws_eqVmS.ent.outs v = laws_eqVmS.ent.f v := by intro v; kernel_rfl
theorem laws_eqVmS.fok : ∀ q ∈ [((82 : Nat), laws_eqVm.ent)], EntryOK Pr q.1 q.2 := by
 intro q hq
 simp only [List.mem_cons, List.mem_nil_iff, or_false] at hq
 rcases hq with rfl
 · exact laws_eqVm.ok
theorem laws_eqVmS_l4.it : ∀ n v, iter (evStep laws_eqVmS.E4 (bodyAt 4 f48) laws_eqVmS_l4.ent.ins laws_eqVmS_l4.ent.rts laws_eqVmS_l4.ent.hm laws_eqVmS_l4.ent.nl laws_eqVmS_l4.ent.xs) n v = laws_eqVmS_l4 n v.1 v.2.1 v.2.2.1 := by
 intro n
 induction n with
 | zero => intro v; rfl
 | succ n ih =>
  intro v
  show (evStep laws_eqVmS.E4 (bodyAt 4 f48) laws_eqVmS_l4.ent.ins laws_eqVmS_l4.ent.rts laws_eqVmS_l4.ent.hm laws_eqVmS_l4.ent.nl laws_eqVmS_l4.ent.xs) (iter (evStep laws_eqVmS.E4 (bodyAt 4 f48) laws_eqVmS_l4.ent.ins laws_eqVmS_l4.ent.rts laws_eqVmS_l4.ent.hm laws_eqVmS_l4.ent.nl laws_eqVmS_l4.ent.xs) n) v = _
  rw [laws_eqVmS_l4.eq, show (fun c0 c1 c2 => iter (evStep laws_eqVmS.E4 (bodyAt 4 f48) laws_eqVmS_l4.ent.ins laws_eqVmS_l4.ent.rts laws_eqVmS_l4.ent.hm laws_eqVmS_l4.ent.nl laws_eqVmS_l4.ent.xs) n (c0, c1, c2, ())) = laws_eqVmS_l4 n from by funext c0 c1 c2; exact ih _]
  rfl
theorem laws_eqVmS_l4.fr : firstRegion (bodyAt 4 f48) = 4 := by kernel_rfl
theorem laws_eqVmS_l4.ls : loopsOf (bodyAt 4 f48) = [] := by kernel_rfl
theorem laws_eqVmS_l4.lok {E : Env} (hpin : laws_eqVmS.E4.pin = E.pin) (hfind : find 4 E.loops = some laws_eqVmS_l4.ent) : LoopOK Pr E (bodyAt 4 f48) :=
 loop_of (E1 := laws_eqVmS.E4) (EnvOK.of dok laws_eqVmS.fok) mixed hpin (by rw [laws_eqVmS_l4.fr]; exact hfind) laws_eqVmS_l4.ls (by intro l hl; simp at hl) (fun v => (laws_eqVmS_l4.it K0 v).symm)
theorem laws_eqVmS.ls : loopsOf (bodyOf f48) = [bodyAt 4 f48] := by kernel_rfl
theorem laws_eqVmS.ok : EntryOK Pr 48 laws_eqVmS.ent :=
 entry_ok (E := laws_eqVmS.E) (EnvOK.of dok laws_eqVmS.fok) mixed (fn := f48) (by kernel_rfl) (by kernel_rfl) (by decide) laws_eqVmS.ls (by intro l hl; simp only [List.mem_singleton] at hl; subst hl; exact laws_eqVmS_l4.lok rfl rfl) laws_eqVmS.eq
/-! ### loop.example/g00038/laws.eqTenant -/
noncomputable def laws_eqTenant.E : Env := ⟨D, [], [], []⟩
noncomputable def laws_eqTenant (a0 : Int) (a1 : Int) (a2 : Int) (a3 : Int) (a4 : Int) (a5 : Int) : Option (Bool × Unit) :=
 bif (a0 != a3) then
  some (false, ())
 else
 bif (a1 != a4) then
  some (false, ())
 else
 bif (a2 != a5) then
  some (false, ())
 else
  some (true, ())
noncomputable def laws_eqTenant.ent : Entry := ⟨[false, false], [.agg [.val .bor (.int .i64), .val .bor (.int .i64), .val .bor (.int .i64)], .agg [.val .bor (.int .i64), .val .bor (.int .i64), .val .bor (.int .i64)]], [.cell (.val .bor (.bool))], [], fun v => laws_eqTenant v.1 v.2.1 v.2.2.1 v.2.2.2.1 v.2.2.2.2.1 v.2.2.2.2.2.1⟩
theorem laws_eqTenant.eq : ∀ v, evFn laws_eqTenant.E f83 laws_eqTenant.ent.ptrs laws_eqTenant.ent.ins laws_eqTenant.ent.rets laws_eqTenant.ent.outs v = laws_eqTenant.ent.f v := by intro v; kernel_rfl
theorem laws_eqTenant.fok : ∀ q ∈ ([] : List (Nat × Entry)), EntryOK Pr q.1 q.2 := by intro q hq; simp at hq
theorem laws_eqTenant.ls : loopsOf (bodyOf f83) = [] := by kernel_rfl
theorem laws_eqTenant.ok : EntryOK Pr 83 laws_eqTenant.ent :=
 entry_ok (E := laws_eqTenant.E) (EnvOK.of dok laws_eqTenant.fok) mixed (fn := f83) (by kernel_rfl) (by kernel_rfl) (by decide) laws_eqTenant.ls (by intro l hl; simp at hl) laws_eqTenant.eq
/-! ### loop.example/g00038/laws.eqTenantS -/
noncomputable def laws_eqTenantS.E4 : Env := ⟨D, [], [(83, laws_eqTenant.ent)], []⟩
noncomputable def laws_eqTenantS_l4_step (rec : List V5 → List V5 → Int → Option ((Bool × Unit) ⊕ (Unit))) (y0 : List V5) (y1 : List V5) (y2 : Int) : Option ((Bool × Unit) ⊕ (Unit)) :=
 let b2 : Bool := decide (y2 < (y0.length : Int))
 bif b2 then
  let e3 : V5 := rd R5 y0 y2
  let e4 : V5 := rd R5 y1 y2
  (laws_eqTenant e3.1 e3.2.1 e3.2.2 e4.1 e4.2.1 e4.2.2).bind fun r5 =>
  bif (decide (0 ≤ y2) && decide (y2 < (y0.length : Int))) && (decide (0 ≤ y2) && decide (y2 < (y1.length : Int))) then
   bif !r5.1 then
    some (Sum.inl (false, ()))
   else
    rec y0 y1 (wrap64 (y2 + 1))
  else none
 else
  some (Sum.inr ())
noncomputable def laws_eqTenantS_l4 : Nat → List V5 → List V5 → Int → Option ((Bool × Unit) ⊕ (Unit))
 | 0 => fun _ _ _ => none
 | n + 1 => laws_eqTenantS_l4_step (laws_eqTenantS_l4 n)
noncomputable def laws_eqTenantS_l4.ent : LEntry := ⟨(.cell (.val .bor (.slice R5)) :: (.cell (.val .bor (.slice R5)) :: (sk 3 (.cell (.val .bor (.int .i64)) :: (sk 21 []))))), rk 27 [], [], [], [⟨none, sk 4 (.cell (.val .bor (.bool)) :: (sk 22 [])), rk 27 [], [], []⟩, ⟨some 0, sk 27 [], rk 27 [], [], []⟩], fun v => laws_eqTenantS_l4 K0 v.1 v.2.1 v.2.2.1⟩
theorem laws_eqTenantS_l4.eq : ∀ rec v, evStep laws_eqTenantS.E4 (bodyAt 4 f49) laws_eqTenantS_l4.ent.ins laws_eqTenantS_l4.ent.rts laws_eqTenantS_l4.ent.hm laws_eqTenantS_l4.ent.nl laws_eqTenantS_l4.ent.xs rec v = laws_eqTenantS_l4_step (fun c0 c1 c2 => rec (c0, c1, c2, ())) v.1 v.2.1 v.2.2.1 := by intro rec v; kernel_rfl
noncomputable def laws_eqTenantS.E : Env := ⟨D, [], [(83, laws_eqTenant.ent)], [(4, laws_eqTenantS_l4.ent)]⟩
noncomputable def laws_eqTenantS (a0 : List V5) (a1 : List V5) : Option (Bool × Unit) :=
 let b1 : Bool := ((a0.length : Int) != (a1.length : Int))
 bif b1 then
  some (false, ())
 else
  (laws_eqTenantS_l4 K0 a0 a1 0).bind fun o6 =>
  match o6 with
  | Sum.inl p7 =>
   some (p7.1, ())
  | Sum.inr p8 =>
   some (true, ())
noncomputable def laws_eqTenantS.ent : Entry := ⟨[false, false], [.cell (.val .bor (.slice R5)), .cell (.val .bor (.slice R5))], [.cell (.val .bor (.bool))], [], fun v => laws_eqTenantS v.1 v.2.1⟩
theorem laws_eqTenantS.eq : ∀ v, evFn laws_eqTenantS.E f49 laws_eqTenantS.ent.ptrs laws_eqTenantS.ent.ins laws_eqTenantS.ent.rets laws_eqTenantS.ent.outs v = laws_eqTenantS.ent.f v := by intro v; kernel_rfl
theorem laws_eqTenantS.fok : ∀ q ∈ [((83 : Nat), laws_eqTenant.ent)], EntryOK Pr q.1 q.2 := by
 intro q hq
 simp only [List.mem_cons, List.mem_nil_iff, or_false] at hq
 rcases hq with rfl
 · exact laws_eqTenant.ok
theorem laws_eqTenantS_l4.it : ∀ n v, iter (evStep laws_eqTenantS.E4 (bodyAt 4 f49) laws_eqTenantS_l4.ent.ins laws_eqTenantS_l4.ent.rts laws_eqTenantS_l4.ent.hm laws_eqTenantS_l4.ent.nl laws_eqTenantS_l4.ent.xs) n v = laws_eqTenantS_l4 n v.1 v.2.1 v.2.2.1 := by
 intro n
 induction n with
 | zero => intro v; rfl
 | succ n ih =>
  intro v
  show (evStep laws_eqTenantS.E4 (bodyAt 4 f49) laws_eqTenantS_l4.ent.ins laws_eqTenantS_l4.ent.rts laws_eqTenantS_l4.ent.hm laws_eqTenantS_l4.ent.nl laws_eqTenantS_l4.ent.xs) (iter (evStep laws_eqTenantS.E4 (bodyAt 4 f49) laws_eqTenantS_l4.ent.ins laws_eqTenantS_l4.ent.rts laws_eqTenantS_l4.ent.hm laws_eqTenantS_l4.ent.nl laws_eqTenantS_l4.ent.xs) n) v = _
  rw [laws_eqTenantS_l4.eq, show (fun c0 c1 c2 => iter (evStep laws_eqTenantS.E4 (bodyAt 4 f49) laws_eqTenantS_l4.ent.ins laws_eqTenantS_l4.ent.rts laws_eqTenantS_l4.ent.hm laws_eqTenantS_l4.ent.nl laws_eqTenantS_l4.ent.xs) n (c0, c1, c2, ())) = laws_eqTenantS_l4 n from by funext c0 c1 c2; exact ih _]
  rfl
theorem laws_eqTenantS_l4.fr : firstRegion (bodyAt 4 f49) = 4 := by kernel_rfl
theorem laws_eqTenantS_l4.ls : loopsOf (bodyAt 4 f49) = [] := by kernel_rfl
theorem laws_eqTenantS_l4.lok {E : Env} (hpin : laws_eqTenantS.E4.pin = E.pin) (hfind : find 4 E.loops = some laws_eqTenantS_l4.ent) : LoopOK Pr E (bodyAt 4 f49) :=
 loop_of (E1 := laws_eqTenantS.E4) (EnvOK.of dok laws_eqTenantS.fok) mixed hpin (by rw [laws_eqTenantS_l4.fr]; exact hfind) laws_eqTenantS_l4.ls (by intro l hl; simp at hl) (fun v => (laws_eqTenantS_l4.it K0 v).symm)
theorem laws_eqTenantS.ls : loopsOf (bodyOf f49) = [bodyAt 4 f49] := by kernel_rfl
theorem laws_eqTenantS.ok : EntryOK Pr 49 laws_eqTenantS.ent :=
 entry_ok (E := laws_eqTenantS.E) (EnvOK.of dok laws_eqTenantS.fok) mixed (fn := f49) (by kernel_rfl) (by kernel_rfl) (by decide) laws_eqTenantS.ls (by intro l hl; simp only [List.mem_singleton] at hl; subst hl; exact laws_eqTenantS_l4.lok rfl rfl) laws_eqTenantS.eq
/-! ### loop.example/g00038/laws.eqCluster -/
noncomputable def laws_eqCluster.E : Env := ⟨D, [], [(47, laws_eqNodeS.ent), (48, laws_eqVmS.ent), (49, laws_eqTenantS.ent)], []⟩
noncomputable def laws_eqCluster (a0 : List V1) (a1 : List V2) (a2 : List V5) (a3 : Int) (a4 : Int) (a5 : List V1) (a6 : List V2) (a7 : List V5) (a8 : Int) (a9 : Int) : Option (Bool × Unit) :=
 (laws_eqNodeS a0 a5).bind fun r1 =>
 bif !r1.1 then
  some (false, ())
 else
  (laws_eqVmS a1 a6).bind fun r2 =>
  bif !r2.1 then
   some (false, ())
  else
   (laws_eqTenantS a2 a7).bind fun r3 =>
   bif !r3.1 then
    some (false, ())
   else
   bif (a3 != a8) then
    some (false, ())
   else
   bif (a4 != a9) then
    some (false, ())
   else
    some (true, ())
noncomputable def laws_eqCluster.ent : Entry := ⟨[false, false], [.agg [.val .bor (.slice R1), .val .bor (.slice R2), .val .bor (.slice R5), .val .bor (.int .i64), .val .bor (.int .i64)], .agg [.val .bor (.slice R1), .val .bor (.slice R2), .val .bor (.slice R5), .val .bor (.int .i64), .val .bor (.int .i64)]], [.cell (.val .bor (.bool))], [], fun v => laws_eqCluster v.1 v.2.1 v.2.2.1 v.2.2.2.1 v.2.2.2.2.1 v.2.2.2.2.2.1 v.2.2.2.2.2.2.1 v.2.2.2.2.2.2.2.1 v.2.2.2.2.2.2.2.2.1 v.2.2.2.2.2.2.2.2.2.1⟩
theorem laws_eqCluster.eq : ∀ v, evFn laws_eqCluster.E f13 laws_eqCluster.ent.ptrs laws_eqCluster.ent.ins laws_eqCluster.ent.rets laws_eqCluster.ent.outs v = laws_eqCluster.ent.f v := by intro v; kernel_rfl
theorem laws_eqCluster.fok : ∀ q ∈ [((47 : Nat), laws_eqNodeS.ent), ((48 : Nat), laws_eqVmS.ent), ((49 : Nat), laws_eqTenantS.ent)], EntryOK Pr q.1 q.2 := by
 intro q hq
 simp only [List.mem_cons, List.mem_nil_iff, or_false] at hq
 rcases hq with rfl | rfl | rfl
 · exact laws_eqNodeS.ok
 · exact laws_eqVmS.ok
 · exact laws_eqTenantS.ok
theorem laws_eqCluster.ls : loopsOf (bodyOf f13) = [] := by kernel_rfl
theorem laws_eqCluster.ok : EntryOK Pr 13 laws_eqCluster.ent :=
 entry_ok (E := laws_eqCluster.E) (EnvOK.of dok laws_eqCluster.fok) mixed (fn := f13) (by kernel_rfl) (by kernel_rfl) (by decide) laws_eqCluster.ls (by intro l hl; simp at hl) laws_eqCluster.eq
/-! ### loop.example/g00038/laws.eqAnswer -/
noncomputable def laws_eqAnswer.E : Env := ⟨D, [], [], []⟩
noncomputable def laws_eqAnswer (a0 : Int) (a1 : ByteArray) (a2 : ByteArray) (a3 : Int) (a4 : ByteArray) (a5 : ByteArray) : Option (Bool × Unit) :=
 bif (a0 != a3) then
  some (false, ())
 else
 bif !seq a1 a4 then
  some (false, ())
 else
 bif !seq a2 a5 then
  some (false, ())
 else
  some (true, ())
noncomputable def laws_eqAnswer.ent : Entry := ⟨[false, false], [.agg [.val .bor (.int .i64), .val .bor (.str), .val .bor (.str)], .agg [.val .bor (.int .i64), .val .bor (.str), .val .bor (.str)]], [.cell (.val .bor (.bool))], [], fun v => laws_eqAnswer v.1 v.2.1 v.2.2.1 v.2.2.2.1 v.2.2.2.2.1 v.2.2.2.2.2.1⟩
theorem laws_eqAnswer.eq : ∀ v, evFn laws_eqAnswer.E f94 laws_eqAnswer.ent.ptrs laws_eqAnswer.ent.ins laws_eqAnswer.ent.rets laws_eqAnswer.ent.outs v = laws_eqAnswer.ent.f v := by intro v; kernel_rfl
theorem laws_eqAnswer.fok : ∀ q ∈ ([] : List (Nat × Entry)), EntryOK Pr q.1 q.2 := by intro q hq; simp at hq
theorem laws_eqAnswer.ls : loopsOf (bodyOf f94) = [] := by kernel_rfl
theorem laws_eqAnswer.ok : EntryOK Pr 94 laws_eqAnswer.ent :=
 entry_ok (E := laws_eqAnswer.E) (EnvOK.of dok laws_eqAnswer.fok) mixed (fn := f94) (by kernel_rfl) (by kernel_rfl) (by decide) laws_eqAnswer.ls (by intro l hl; simp at hl) laws_eqAnswer.eq
/-! ### loop.example/g00038/laws.eqAnswerS -/
noncomputable def laws_eqAnswerS.E4 : Env := ⟨D, [], [(94, laws_eqAnswer.ent)], []⟩
noncomputable def laws_eqAnswerS_l4_step (rec : List V3 → List V3 → Int → Option ((Bool × Unit) ⊕ (Unit))) (y0 : List V3) (y1 : List V3) (y2 : Int) : Option ((Bool × Unit) ⊕ (Unit)) :=
 let b2 : Bool := decide (y2 < (y0.length : Int))
 bif b2 then
  let e3 : V3 := rd R3 y0 y2
  let e4 : V3 := rd R3 y1 y2
  (laws_eqAnswer e3.1 e3.2.1 e3.2.2 e4.1 e4.2.1 e4.2.2).bind fun r5 =>
  bif (decide (0 ≤ y2) && decide (y2 < (y0.length : Int))) && (decide (0 ≤ y2) && decide (y2 < (y1.length : Int))) then
   bif !r5.1 then
    some (Sum.inl (false, ()))
   else
    rec y0 y1 (wrap64 (y2 + 1))
  else none
 else
  some (Sum.inr ())
noncomputable def laws_eqAnswerS_l4 : Nat → List V3 → List V3 → Int → Option ((Bool × Unit) ⊕ (Unit))
 | 0 => fun _ _ _ => none
 | n + 1 => laws_eqAnswerS_l4_step (laws_eqAnswerS_l4 n)
noncomputable def laws_eqAnswerS_l4.ent : LEntry := ⟨(.cell (.val .bor (.slice R3)) :: (.cell (.val .bor (.slice R3)) :: (sk 3 (.cell (.val .bor (.int .i64)) :: (sk 21 []))))), rk 27 [], [], [], [⟨none, sk 4 (.cell (.val .bor (.bool)) :: (sk 22 [])), rk 27 [], [], []⟩, ⟨some 0, sk 27 [], rk 27 [], [], []⟩], fun v => laws_eqAnswerS_l4 K0 v.1 v.2.1 v.2.2.1⟩
theorem laws_eqAnswerS_l4.eq : ∀ rec v, evStep laws_eqAnswerS.E4 (bodyAt 4 f63) laws_eqAnswerS_l4.ent.ins laws_eqAnswerS_l4.ent.rts laws_eqAnswerS_l4.ent.hm laws_eqAnswerS_l4.ent.nl laws_eqAnswerS_l4.ent.xs rec v = laws_eqAnswerS_l4_step (fun c0 c1 c2 => rec (c0, c1, c2, ())) v.1 v.2.1 v.2.2.1 := by intro rec v; kernel_rfl
noncomputable def laws_eqAnswerS.E : Env := ⟨D, [], [(94, laws_eqAnswer.ent)], [(4, laws_eqAnswerS_l4.ent)]⟩
noncomputable def laws_eqAnswerS (a0 : List V3) (a1 : List V3) : Option (Bool × Unit) :=
 let b1 : Bool := ((a0.length : Int) != (a1.length : Int))
 bif b1 then
  some (false, ())
 else
  (laws_eqAnswerS_l4 K0 a0 a1 0).bind fun o6 =>
  match o6 with
  | Sum.inl p7 =>
   some (p7.1, ())
  | Sum.inr p8 =>
   some (true, ())
noncomputable def laws_eqAnswerS.ent : Entry := ⟨[false, false], [.cell (.val .bor (.slice R3)), .cell (.val .bor (.slice R3))], [.cell (.val .bor (.bool))], [], fun v => laws_eqAnswerS v.1 v.2.1⟩
theorem laws_eqAnswerS.eq : ∀ v, evFn laws_eqAnswerS.E f63 laws_eqAnswerS.ent.ptrs laws_eqAnswerS.ent.ins laws_eqAnswerS.ent.rets laws_eqAnswerS.ent.outs v = laws_eqAnswerS.ent.f v := by intro v; kernel_rfl
theorem laws_eqAnswerS.fok : ∀ q ∈ [((94 : Nat), laws_eqAnswer.ent)], EntryOK Pr q.1 q.2 := by
 intro q hq
 simp only [List.mem_cons, List.mem_nil_iff, or_false] at hq
 rcases hq with rfl
 · exact laws_eqAnswer.ok
theorem laws_eqAnswerS_l4.it : ∀ n v, iter (evStep laws_eqAnswerS.E4 (bodyAt 4 f63) laws_eqAnswerS_l4.ent.ins laws_eqAnswerS_l4.ent.rts laws_eqAnswerS_l4.ent.hm laws_eqAnswerS_l4.ent.nl laws_eqAnswerS_l4.ent.xs) n v = laws_eqAnswerS_l4 n v.1 v.2.1 v.2.2.1 := by
 intro n
 induction n with
 | zero => intro v; rfl
 | succ n ih =>
  intro v
  show (evStep laws_eqAnswerS.E4 (bodyAt 4 f63) laws_eqAnswerS_l4.ent.ins laws_eqAnswerS_l4.ent.rts laws_eqAnswerS_l4.ent.hm laws_eqAnswerS_l4.ent.nl laws_eqAnswerS_l4.ent.xs) (iter (evStep laws_eqAnswerS.E4 (bodyAt 4 f63) laws_eqAnswerS_l4.ent.ins laws_eqAnswerS_l4.ent.rts laws_eqAnswerS_l4.ent.hm laws_eqAnswerS_l4.ent.nl laws_eqAnswerS_l4.ent.xs) n) v = _
  rw [laws_eqAnswerS_l4.eq, show (fun c0 c1 c2 => iter (evStep laws_eqAnswerS.E4 (bodyAt 4 f63) laws_eqAnswerS_l4.ent.ins laws_eqAnswerS_l4.ent.rts laws_eqAnswerS_l4.ent.hm laws_eqAnswerS_l4.ent.nl laws_eqAnswerS_l4.ent.xs) n (c0, c1, c2, ())) = laws_eqAnswerS_l4 n from by funext c0 c1 c2; exact ih _]
  rfl
theorem laws_eqAnswerS_l4.fr : firstRegion (bodyAt 4 f63) = 4 := by kernel_rfl
theorem laws_eqAnswerS_l4.ls : loopsOf (bodyAt 4 f63) = [] := by kernel_rfl
theorem laws_eqAnswerS_l4.lok {E : Env} (hpin : laws_eqAnswerS.E4.pin = E.pin) (hfind : find 4 E.loops = some laws_eqAnswerS_l4.ent) : LoopOK Pr E (bodyAt 4 f63) :=
 loop_of (E1 := laws_eqAnswerS.E4) (EnvOK.of dok laws_eqAnswerS.fok) mixed hpin (by rw [laws_eqAnswerS_l4.fr]; exact hfind) laws_eqAnswerS_l4.ls (by intro l hl; simp at hl) (fun v => (laws_eqAnswerS_l4.it K0 v).symm)
theorem laws_eqAnswerS.ls : loopsOf (bodyOf f63) = [bodyAt 4 f63] := by kernel_rfl
theorem laws_eqAnswerS.ok : EntryOK Pr 63 laws_eqAnswerS.ent :=
 entry_ok (E := laws_eqAnswerS.E) (EnvOK.of dok laws_eqAnswerS.fok) mixed (fn := f63) (by kernel_rfl) (by kernel_rfl) (by decide) laws_eqAnswerS.ls (by intro l hl; simp only [List.mem_singleton] at hl; subst hl; exact laws_eqAnswerS_l4.lok rfl rfl) laws_eqAnswerS.eq
/-! ### loop.example/g00038/laws.eqStringS -/
noncomputable def laws_eqStringS.E4 : Env := ⟨D, [], [], []⟩
noncomputable def laws_eqStringS_l4_step (rec : List ByteArray → List ByteArray → Int → Option ((Bool × Unit) ⊕ (Unit))) (y0 : List ByteArray) (y1 : List ByteArray) (y2 : Int) : Option ((Bool × Unit) ⊕ (Unit)) :=
 let b2 : Bool := decide (y2 < (y0.length : Int))
 bif b2 then
  let b3 : Bool := !seq (rd (.str) y0 y2) (rd (.str) y1 y2)
  bif (decide (0 ≤ y2) && decide (y2 < (y0.length : Int))) && (decide (0 ≤ y2) && decide (y2 < (y1.length : Int))) then
   bif b3 then
    some (Sum.inl (false, ()))
   else
    rec y0 y1 (wrap64 (y2 + 1))
  else none
 else
  some (Sum.inr ())
noncomputable def laws_eqStringS_l4 : Nat → List ByteArray → List ByteArray → Int → Option ((Bool × Unit) ⊕ (Unit))
 | 0 => fun _ _ _ => none
 | n + 1 => laws_eqStringS_l4_step (laws_eqStringS_l4 n)
noncomputable def laws_eqStringS_l4.ent : LEntry := ⟨(.cell (.val .bor (.slice (.str))) :: (.cell (.val .bor (.slice (.str))) :: (sk 3 (.cell (.val .bor (.int .i64)) :: (sk 20 []))))), rk 26 [], [], [], [⟨none, sk 4 (.cell (.val .bor (.bool)) :: (sk 21 [])), rk 26 [], [], []⟩, ⟨some 0, sk 26 [], rk 26 [], [], []⟩], fun v => laws_eqStringS_l4 K0 v.1 v.2.1 v.2.2.1⟩
theorem laws_eqStringS_l4.eq : ∀ rec v, evStep laws_eqStringS.E4 (bodyAt 4 f120) laws_eqStringS_l4.ent.ins laws_eqStringS_l4.ent.rts laws_eqStringS_l4.ent.hm laws_eqStringS_l4.ent.nl laws_eqStringS_l4.ent.xs rec v = laws_eqStringS_l4_step (fun c0 c1 c2 => rec (c0, c1, c2, ())) v.1 v.2.1 v.2.2.1 := by intro rec v; kernel_rfl
noncomputable def laws_eqStringS.E : Env := ⟨D, [], [], [(4, laws_eqStringS_l4.ent)]⟩
noncomputable def laws_eqStringS (a0 : List ByteArray) (a1 : List ByteArray) : Option (Bool × Unit) :=
 let b1 : Bool := ((a0.length : Int) != (a1.length : Int))
 bif b1 then
  some (false, ())
 else
  (laws_eqStringS_l4 K0 a0 a1 0).bind fun o4 =>
  match o4 with
  | Sum.inl p5 =>
   some (p5.1, ())
  | Sum.inr p6 =>
   some (true, ())
noncomputable def laws_eqStringS.ent : Entry := ⟨[false, false], [.cell (.val .bor (.slice (.str))), .cell (.val .bor (.slice (.str)))], [.cell (.val .bor (.bool))], [], fun v => laws_eqStringS v.1 v.2.1⟩
theorem laws_eqStringS.eq : ∀ v, evFn laws_eqStringS.E f120 laws_eqStringS.ent.ptrs laws_eqStringS.ent.ins laws_eqStringS.ent.rets laws_eqStringS.ent.outs v = laws_eqStringS.ent.f v := by intro v; kernel_rfl
theorem laws_eqStringS.fok : ∀ q ∈ ([] : List (Nat × Entry)), EntryOK Pr q.1 q.2 := by intro q hq; simp at hq
theorem laws_eqStringS_l4.it : ∀ n v, iter (evStep laws_eqStringS.E4 (bodyAt 4 f120) laws_eqStringS_l4.ent.ins laws_eqStringS_l4.ent.rts laws_eqStringS_l4.ent.hm laws_eqStringS_l4.ent.nl laws_eqStringS_l4.ent.xs) n v = laws_eqStringS_l4 n v.1 v.2.1 v.2.2.1 := by
 intro n
 induction n with
 | zero => intro v; rfl
 | succ n ih =>
  intro v
  show (evStep laws_eqStringS.E4 (bodyAt 4 f120) laws_eqStringS_l4.ent.ins laws_eqStringS_l4.ent.rts laws_eqStringS_l4.ent.hm laws_eqStringS_l4.ent.nl laws_eqStringS_l4.ent.xs) (iter (evStep laws_eqStringS.E4 (bodyAt 4 f120) laws_eqStringS_l4.ent.ins laws_eqStringS_l4.ent.rts laws_eqStringS_l4.ent.hm laws_eqStringS_l4.ent.nl laws_eqStringS_l4.ent.xs) n) v = _
  rw [laws_eqStringS_l4.eq, show (fun c0 c1 c2 => iter (evStep laws_eqStringS.E4 (bodyAt 4 f120) laws_eqStringS_l4.ent.ins laws_eqStringS_l4.ent.rts laws_eqStringS_l4.ent.hm laws_eqStringS_l4.ent.nl laws_eqStringS_l4.ent.xs) n (c0, c1, c2, ())) = laws_eqStringS_l4 n from by funext c0 c1 c2; exact ih _]
  rfl
theorem laws_eqStringS_l4.fr : firstRegion (bodyAt 4 f120) = 4 := by kernel_rfl
theorem laws_eqStringS_l4.ls : loopsOf (bodyAt 4 f120) = [] := by kernel_rfl
theorem laws_eqStringS_l4.lok {E : Env} (hpin : laws_eqStringS.E4.pin = E.pin) (hfind : find 4 E.loops = some laws_eqStringS_l4.ent) : LoopOK Pr E (bodyAt 4 f120) :=
 loop_of (E1 := laws_eqStringS.E4) (EnvOK.of dok laws_eqStringS.fok) mixed hpin (by rw [laws_eqStringS_l4.fr]; exact hfind) laws_eqStringS_l4.ls (by intro l hl; simp at hl) (fun v => (laws_eqStringS_l4.it K0 v).symm)
theorem laws_eqStringS.ls : loopsOf (bodyOf f120) = [bodyAt 4 f120] := by kernel_rfl
theorem laws_eqStringS.ok : EntryOK Pr 120 laws_eqStringS.ent :=
 entry_ok (E := laws_eqStringS.E) (EnvOK.of dok laws_eqStringS.fok) mixed (fn := f120) (by kernel_rfl) (by kernel_rfl) (by decide) laws_eqStringS.ls (by intro l hl; simp only [List.mem_singleton] at hl; subst hl; exact laws_eqStringS_l4.lok rfl rfl) laws_eqStringS.eq
/-! ### loop.example/g00038/laws.eqManJob -/
noncomputable def laws_eqManJob.E : Env := ⟨D, [], [(120, laws_eqStringS.ent)], []⟩
noncomputable def laws_eqManJob (a0 : Int) (a1 : ByteArray) (a2 : List ByteArray) (a3 : Int) (a4 : Int) (a5 : Int) (a6 : ByteArray) (a7 : List ByteArray) (a8 : Int) (a9 : Int) : Option (Bool × Unit) :=
 bif (a0 != a5) then
  some (false, ())
 else
 bif !seq a1 a6 then
  some (false, ())
 else
  (laws_eqStringS a2 a7).bind fun r1 =>
  bif !r1.1 then
   some (false, ())
  else
  bif (a3 != a8) then
   some (false, ())
  else
  bif (a4 != a9) then
   some (false, ())
  else
   some (true, ())
noncomputable def laws_eqManJob.ent : Entry := ⟨[false, false], [.agg [.val .bor (.int .i64), .val .bor (.str), .val .bor (.slice (.str)), .val .bor (.int .i64), .val .bor (.int .i64)], .agg [.val .bor (.int .i64), .val .bor (.str), .val .bor (.slice (.str)), .val .bor (.int .i64), .val .bor (.int .i64)]], [.cell (.val .bor (.bool))], [], fun v => laws_eqManJob v.1 v.2.1 v.2.2.1 v.2.2.2.1 v.2.2.2.2.1 v.2.2.2.2.2.1 v.2.2.2.2.2.2.1 v.2.2.2.2.2.2.2.1 v.2.2.2.2.2.2.2.2.1 v.2.2.2.2.2.2.2.2.2.1⟩
theorem laws_eqManJob.eq : ∀ v, evFn laws_eqManJob.E f95 laws_eqManJob.ent.ptrs laws_eqManJob.ent.ins laws_eqManJob.ent.rets laws_eqManJob.ent.outs v = laws_eqManJob.ent.f v := by intro v; kernel_rfl
theorem laws_eqManJob.fok : ∀ q ∈ [((120 : Nat), laws_eqStringS.ent)], EntryOK Pr q.1 q.2 := by
 intro q hq
 simp only [List.mem_cons, List.mem_nil_iff, or_false] at hq
 rcases hq with rfl
 · exact laws_eqStringS.ok
theorem laws_eqManJob.ls : loopsOf (bodyOf f95) = [] := by kernel_rfl
theorem laws_eqManJob.ok : EntryOK Pr 95 laws_eqManJob.ent :=
 entry_ok (E := laws_eqManJob.E) (EnvOK.of dok laws_eqManJob.fok) mixed (fn := f95) (by kernel_rfl) (by kernel_rfl) (by decide) laws_eqManJob.ls (by intro l hl; simp at hl) laws_eqManJob.eq
end Go.Ab.FnExactManagerFault