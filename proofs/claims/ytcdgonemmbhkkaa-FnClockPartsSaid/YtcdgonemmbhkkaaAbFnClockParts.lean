/- The functions that the law FnClockParts reaches, over plain values, and that each does what its code does: part 1 of 1. Without conditions. -/
import Derived.Test.YtcdgonemmbhkkaaProg
import Derived.Test.YtcdgonemmbhkkaaAbD
namespace Go.Ab.FnClockParts
open Go.RowKit
set_option linter.unusedVariables false
set_option maxRecDepth 100000
noncomputable def tds : List (Option TD) := [
  none,
  some ⟨.other, 1, .opq, 8, false⟩,
  some ⟨.int .i64, 1, .int .i64, 8, false⟩,
  some ⟨.int .i64, 1, .int .i64, 8, false⟩,
  some ⟨.bool, 1, .bool, 1, false⟩,
  some ⟨.int .u8, 1, .int .u8, 1, false⟩,
  some ⟨.int .u8, 1, .int .u8, 1, false⟩,
  some ⟨.struct [(0, 2), (1, 3), (2, 4), (3, 6)], 4, .pair (.int .i64) (.pair (.int .i64) (.pair (.bool) (.int .u8))), 24, true⟩,
  some ⟨.struct [(0, 2), (1, 3), (2, 4), (3, 6)], 4, .pair (.int .i64) (.pair (.int .i64) (.pair (.bool) (.int .u8))), 24, true⟩,
  some ⟨.str, 1, .str, 16, false⟩,
  some ⟨.str, 1, .str, 16, false⟩,
  some ⟨.str, 1, .str, 16, false⟩,
  some ⟨.int .u64, 1, .int .u64, 8, false⟩,
  none,
  none,
  some ⟨.ptr 215, 1, .opq, 8, false⟩,
  some ⟨.ptr 218, 1, .opq, 8, false⟩,
  some ⟨.ptr 227, 1, .opq, 8, false⟩,
  some ⟨.struct [(0, 17)], 1, .opq, 8, true⟩,
  some ⟨.struct [(0, 17)], 1, .opq, 8, true⟩,
  none,
  some ⟨.int .i32, 1, .int .i32, 4, false⟩,
  some ⟨.slice 5, 1, .slice (.int .u8), 24, false⟩,
  some ⟨.struct [(0, 2), (1, 2), (2, 2), (3, 2), (4, 2), (5, 2)], 6, .pair (.int .i64) (.pair (.int .i64) (.pair (.int .i64) (.pair (.int .i64) (.pair (.int .i64) (.int .i64))))), 48, true⟩,
  some ⟨.struct [(0, 2), (1, 2), (2, 2), (3, 2), (4, 2), (5, 2)], 6, .pair (.int .i64) (.pair (.int .i64) (.pair (.int .i64) (.pair (.int .i64) (.pair (.int .i64) (.int .i64))))), 48, true⟩,
  some ⟨.slice 39, 1, .slice (.pair (.int .i64) (.pair (.int .i64) (.bool))), 24, false⟩,
  none,
  some ⟨.other, 1, .opq, 8, false⟩,
  some ⟨.struct [(0, 2), (1, 9), (2, 24), (8, 4)], 9, .pair (.int .i64) (.pair (.str) (.pair (.int .i64) (.pair (.int .i64) (.pair (.int .i64) (.pair (.int .i64) (.pair (.int .i64) (.pair (.int .i64) (.bool)))))))), 80, true⟩,
  some ⟨.struct [(0, 2), (1, 9), (2, 24), (8, 4)], 9, .pair (.int .i64) (.pair (.str) (.pair (.int .i64) (.pair (.int .i64) (.pair (.int .i64) (.pair (.int .i64) (.pair (.int .i64) (.pair (.int .i64) (.bool)))))))), 80, true⟩,
  some ⟨.other, 1, .opq, 8, false⟩,
  some ⟨.other, 1, .opq, 8, false⟩,
  some ⟨.struct [(0, 4), (1, 2)], 2, .pair (.bool) (.int .i64), 16, true⟩,
  some ⟨.struct [(0, 4), (1, 2)], 2, .pair (.bool) (.int .i64), 16, true⟩,
  some ⟨.other, 1, .opq, 8, false⟩,
  some ⟨.struct [(0, 2), (1, 2), (2, 25), (3, 24)], 9, .pair (.int .i64) (.pair (.int .i64) (.pair (.slice (.pair (.int .i64) (.pair (.int .i64) (.bool)))) (.pair (.int .i64) (.pair (.int .i64) (.pair (.int .i64) (.pair (.int .i64) (.pair (.int .i64) (.int .i64)))))))), 88, true⟩,
  some ⟨.struct [(0, 2), (1, 2), (2, 25), (3, 24)], 9, .pair (.int .i64) (.pair (.int .i64) (.pair (.slice (.pair (.int .i64) (.pair (.int .i64) (.bool)))) (.pair (.int .i64) (.pair (.int .i64) (.pair (.int .i64) (.pair (.int .i64) (.pair (.int .i64) (.int .i64)))))))), 88, true⟩,
  some ⟨.other, 1, .opq, 8, false⟩,
  some ⟨.struct [(0, 2), (1, 2), (2, 4)], 3, .pair (.int .i64) (.pair (.int .i64) (.bool)), 24, true⟩,
  some ⟨.struct [(0, 2), (1, 2), (2, 4)], 3, .pair (.int .i64) (.pair (.int .i64) (.bool)), 24, true⟩,
  some ⟨.other, 1, .opq, 8, false⟩,
  some ⟨.other, 1, .opq, 8, false⟩,
  none,
  some ⟨.other, 1, .opq, 8, false⟩,
  some ⟨.slice 55, 1, .slice (.pair (.int .i64) (.pair (.int .i64) (.pair (.int .i64) (.pair (.int .i64) (.bool))))), 24, false⟩,
  some ⟨.struct [(0, 44), (1, 2)], 2, .pair (.slice (.pair (.int .i64) (.pair (.int .i64) (.pair (.int .i64) (.pair (.int .i64) (.bool)))))) (.int .i64), 32, true⟩,
  some ⟨.struct [(0, 44), (1, 2)], 2, .pair (.slice (.pair (.int .i64) (.pair (.int .i64) (.pair (.int .i64) (.pair (.int .i64) (.bool)))))) (.int .i64), 32, true⟩,
  some ⟨.other, 1, .opq, 8, false⟩,
  some ⟨.slice 2, 1, .slice (.int .i64), 24, false⟩,
  some ⟨.struct [(0, 2), (1, 2), (2, 2), (3, 4), (4, 48), (5, 9)], 6, .pair (.int .i64) (.pair (.int .i64) (.pair (.int .i64) (.pair (.bool) (.pair (.slice (.int .i64)) (.str))))), 72, true⟩,
  some ⟨.struct [(0, 2), (1, 2), (2, 2), (3, 4), (4, 48), (5, 9)], 6, .pair (.int .i64) (.pair (.int .i64) (.pair (.int .i64) (.pair (.bool) (.pair (.slice (.int .i64)) (.str))))), 72, true⟩,
  some ⟨.other, 1, .opq, 8, false⟩,
  some ⟨.other, 1, .opq, 8, false⟩,
  some ⟨.int .u64, 1, .int .u64, 8, false⟩,
  some ⟨.struct [(0, 2), (1, 2), (2, 2), (3, 2), (4, 4)], 5, .pair (.int .i64) (.pair (.int .i64) (.pair (.int .i64) (.pair (.int .i64) (.bool)))), 40, true⟩,
  some ⟨.struct [(0, 2), (1, 2), (2, 2), (3, 2), (4, 4)], 5, .pair (.int .i64) (.pair (.int .i64) (.pair (.int .i64) (.pair (.int .i64) (.bool)))), 40, true⟩,
  some ⟨.other, 1, .opq, 8, false⟩,
  some ⟨.other, 1, .opq, 8, false⟩,
  some ⟨.struct [(0, 4), (1, 2), (2, 2)], 3, .pair (.bool) (.pair (.int .i64) (.int .i64)), 24, true⟩,
  some ⟨.struct [(0, 4), (1, 2), (2, 2)], 3, .pair (.bool) (.pair (.int .i64) (.int .i64)), 24, true⟩,
  some ⟨.other, 1, .opq, 8, false⟩,
  some ⟨.other, 1, .opq, 8, false⟩,
  some ⟨.slice 142, 1, .slice (.pair (.int .i64) (.pair (.int .i64) (.int .i64))), 24, false⟩,
  some ⟨.struct [(0, 2), (1, 2), (2, 2), (3, 2), (4, 2), (5, 4), (6, 62)], 7, .pair (.int .i64) (.pair (.int .i64) (.pair (.int .i64) (.pair (.int .i64) (.pair (.int .i64) (.pair (.bool) (.slice (.pair (.int .i64) (.pair (.int .i64) (.int .i64))))))))), 72, true⟩,
  some ⟨.struct [(0, 2), (1, 2), (2, 2), (3, 2), (4, 2), (5, 4), (6, 62)], 7, .pair (.int .i64) (.pair (.int .i64) (.pair (.int .i64) (.pair (.int .i64) (.pair (.int .i64) (.pair (.bool) (.slice (.pair (.int .i64) (.pair (.int .i64) (.int .i64))))))))), 72, true⟩,
  some ⟨.slice 144, 1, .slice (.pair (.int .i64) (.pair (.int .i64) (.pair (.int .i64) (.pair (.int .i64) (.pair (.int .i64) (.pair (.int .i64) (.int .i64))))))), 24, false⟩,
  some ⟨.other, 1, .opq, 8, false⟩,
  some ⟨.other, 1, .opq, 8, false⟩,
  some ⟨.slice 89, 1, .slice (.pair (.int .i64) (.pair (.int .i64) (.int .i64))), 24, false⟩,
  some ⟨.struct [(0, 2), (1, 2), (2, 2), (3, 2), (4, 2), (5, 4), (6, 68)], 7, .pair (.int .i64) (.pair (.int .i64) (.pair (.int .i64) (.pair (.int .i64) (.pair (.int .i64) (.pair (.bool) (.slice (.pair (.int .i64) (.pair (.int .i64) (.int .i64))))))))), 72, true⟩,
  some ⟨.struct [(0, 2), (1, 2), (2, 2), (3, 2), (4, 2), (5, 4), (6, 68)], 7, .pair (.int .i64) (.pair (.int .i64) (.pair (.int .i64) (.pair (.int .i64) (.pair (.int .i64) (.pair (.bool) (.slice (.pair (.int .i64) (.pair (.int .i64) (.int .i64))))))))), 72, true⟩,
  some ⟨.slice 137, 1, .slice (.pair (.int .i64) (.pair (.int .i64) (.slice (.int .i64)))), 24, false⟩,
  some ⟨.struct [(0, 2), (1, 70), (8, 71)], 9, .pair (.int .i64) (.pair (.int .i64) (.pair (.int .i64) (.pair (.int .i64) (.pair (.int .i64) (.pair (.int .i64) (.pair (.bool) (.pair (.slice (.pair (.int .i64) (.pair (.int .i64) (.int .i64)))) (.slice (.pair (.int .i64) (.pair (.int .i64) (.slice (.int .i64)))))))))))), 104, true⟩,
  some ⟨.struct [(0, 2), (1, 70), (8, 71)], 9, .pair (.int .i64) (.pair (.int .i64) (.pair (.int .i64) (.pair (.int .i64) (.pair (.int .i64) (.pair (.int .i64) (.pair (.bool) (.pair (.slice (.pair (.int .i64) (.pair (.int .i64) (.int .i64)))) (.slice (.pair (.int .i64) (.pair (.int .i64) (.slice (.int .i64)))))))))))), 104, true⟩,
  some ⟨.other, 1, .opq, 8, false⟩,
  some ⟨.other, 1, .opq, 8, false⟩,
  some ⟨.slice 91, 1, .slice (.pair (.int .i64) (.pair (.int .i64) (.pair (.int .i64) (.pair (.int .i64) (.pair (.int .i64) (.pair (.int .i64) (.int .i64))))))), 24, false⟩,
  some ⟨.other, 1, .opq, 8, false⟩,
  some ⟨.other, 1, .opq, 8, false⟩,
  some ⟨.other, 1, .opq, 8, false⟩,
  some ⟨.other, 1, .opq, 8, false⟩,
  some ⟨.other, 1, .opq, 8, false⟩,
  some ⟨.other, 1, .opq, 8, false⟩,
  some ⟨.other, 1, .opq, 8, false⟩,
  some ⟨.other, 1, .opq, 8, false⟩,
  some ⟨.other, 1, .opq, 8, false⟩,
  some ⟨.other, 1, .opq, 8, false⟩,
  some ⟨.other, 1, .opq, 8, false⟩,
  some ⟨.struct [(0, 2), (1, 2), (2, 2)], 3, .pair (.int .i64) (.pair (.int .i64) (.int .i64)), 24, true⟩,
  some ⟨.struct [(0, 2), (1, 2), (2, 2)], 3, .pair (.int .i64) (.pair (.int .i64) (.int .i64)), 24, true⟩,
  some ⟨.struct [(0, 2), (1, 2), (2, 2), (3, 2), (4, 89)], 7, .pair (.int .i64) (.pair (.int .i64) (.pair (.int .i64) (.pair (.int .i64) (.pair (.int .i64) (.pair (.int .i64) (.int .i64)))))), 56, true⟩,
  some ⟨.struct [(0, 2), (1, 2), (2, 2), (3, 2), (4, 89)], 7, .pair (.int .i64) (.pair (.int .i64) (.pair (.int .i64) (.pair (.int .i64) (.pair (.int .i64) (.pair (.int .i64) (.int .i64)))))), 56, true⟩,
  some ⟨.other, 1, .opq, 8, false⟩,
  some ⟨.struct [(0, 2), (1, 9), (2, 24), (8, 9), (9, 2), (10, 4)], 11, .pair (.int .i64) (.pair (.str) (.pair (.int .i64) (.pair (.int .i64) (.pair (.int .i64) (.pair (.int .i64) (.pair (.int .i64) (.pair (.int .i64) (.pair (.str) (.pair (.int .i64) (.bool)))))))))), 104, true⟩,
  some ⟨.struct [(0, 2), (1, 9), (2, 24), (8, 9), (9, 2), (10, 4)], 11, .pair (.int .i64) (.pair (.str) (.pair (.int .i64) (.pair (.int .i64) (.pair (.int .i64) (.pair (.int .i64) (.pair (.int .i64) (.pair (.int .i64) (.pair (.str) (.pair (.int .i64) (.bool)))))))))), 104, true⟩,
  some ⟨.other, 1, .opq, 8, false⟩,
  some ⟨.ptr 169, 1, .opq, 8, false⟩,
  some ⟨.other, 1, .opq, 8, false⟩,
  none,
  some ⟨.other, 1, .opq, 8, false⟩,
  some ⟨.other, 1, .opq, 8, false⟩,
  some ⟨.other, 1, .opq, 8, false⟩,
  some ⟨.other, 1, .opq, 8, false⟩,
  some ⟨.other, 1, .opq, 8, false⟩,
  some ⟨.other, 1, .opq, 8, false⟩,
  some ⟨.other, 1, .opq, 8, false⟩,
  some ⟨.other, 1, .opq, 8, false⟩,
  some ⟨.other, 1, .opq, 8, false⟩,
  some ⟨.other, 1, .opq, 8, false⟩,
  some ⟨.other, 1, .opq, 8, false⟩,
  some ⟨.other, 1, .opq, 8, false⟩,
  some ⟨.other, 1, .opq, 8, false⟩,
  some ⟨.struct [(0, 2), (1, 25)], 2, .pair (.int .i64) (.slice (.pair (.int .i64) (.pair (.int .i64) (.bool)))), 32, true⟩,
  some ⟨.struct [(0, 2), (1, 25)], 2, .pair (.int .i64) (.slice (.pair (.int .i64) (.pair (.int .i64) (.bool)))), 32, true⟩,
  some ⟨.other, 1, .opq, 8, false⟩,
  some ⟨.other, 1, .opq, 8, false⟩,
  some ⟨.other, 1, .opq, 8, false⟩,
  some ⟨.other, 1, .opq, 8, false⟩,
  some ⟨.other, 1, .opq, 8, false⟩,
  none,
  some ⟨.other, 1, .opq, 8, false⟩,
  some ⟨.other, 1, .opq, 8, false⟩,
  some ⟨.other, 1, .opq, 8, false⟩,
  some ⟨.arr 2 2, 2, .pair (.int .i64) (.int .i64), 16, true⟩,
  some ⟨.struct [(0, 2), (1, 2), (2, 2), (3, 2), (4, 2), (5, 4), (6, 123), (8, 3)], 9, .pair (.int .i64) (.pair (.int .i64) (.pair (.int .i64) (.pair (.int .i64) (.pair (.int .i64) (.pair (.bool) (.pair (.int .i64) (.pair (.int .i64) (.int .i64)))))))), 72, true⟩,
  some ⟨.struct [(0, 2), (1, 2), (2, 2), (3, 2), (4, 2), (5, 4), (6, 123), (8, 3)], 9, .pair (.int .i64) (.pair (.int .i64) (.pair (.int .i64) (.pair (.int .i64) (.pair (.int .i64) (.pair (.bool) (.pair (.int .i64) (.pair (.int .i64) (.int .i64)))))))), 72, true⟩,
  some ⟨.other, 1, .opq, 8, false⟩,
  some ⟨.other, 1, .opq, 8, false⟩,
  some ⟨.other, 1, .opq, 8, false⟩,
  some ⟨.other, 1, .opq, 8, false⟩,
  some ⟨.other, 1, .opq, 8, false⟩,
  some ⟨.other, 1, .opq, 8, false⟩,
  some ⟨.other, 1, .opq, 8, false⟩,
  some ⟨.other, 1, .opq, 8, false⟩,
  some ⟨.other, 1, .opq, 8, false⟩,
  some ⟨.other, 1, .opq, 8, false⟩,
  some ⟨.struct [(0, 2), (1, 2), (2, 48)], 3, .pair (.int .i64) (.pair (.int .i64) (.slice (.int .i64))), 40, true⟩,
  some ⟨.struct [(0, 2), (1, 2), (2, 48)], 3, .pair (.int .i64) (.pair (.int .i64) (.slice (.int .i64))), 40, true⟩,
  none,
  some ⟨.other, 1, .opq, 8, false⟩,
  some ⟨.other, 1, .opq, 8, false⟩,
  some ⟨.other, 1, .opq, 8, false⟩,
  some ⟨.struct [(0, 2), (1, 2), (2, 2)], 3, .pair (.int .i64) (.pair (.int .i64) (.int .i64)), 24, true⟩,
  some ⟨.struct [(0, 2), (1, 2), (2, 2), (3, 2), (4, 142)], 7, .pair (.int .i64) (.pair (.int .i64) (.pair (.int .i64) (.pair (.int .i64) (.pair (.int .i64) (.pair (.int .i64) (.int .i64)))))), 56, true⟩,
  some ⟨.struct [(0, 2), (1, 2), (2, 2), (3, 2), (4, 142)], 7, .pair (.int .i64) (.pair (.int .i64) (.pair (.int .i64) (.pair (.int .i64) (.pair (.int .i64) (.pair (.int .i64) (.int .i64)))))), 56, true⟩,
  some ⟨.other, 1, .opq, 8, false⟩,
  none,
  some ⟨.other, 1, .opq, 8, false⟩,
  some ⟨.other, 1, .opq, 8, false⟩,
  some ⟨.other, 1, .opq, 8, false⟩,
  some ⟨.other, 1, .opq, 8, false⟩,
  some ⟨.other, 1, .opq, 8, false⟩,
  some ⟨.other, 1, .opq, 8, false⟩,
  some ⟨.other, 1, .opq, 8, false⟩,
  some ⟨.other, 1, .opq, 8, false⟩,
  some ⟨.other, 1, .opq, 8, false⟩,
  some ⟨.other, 1, .opq, 8, false⟩,
  some ⟨.ptr 159, 1, .opq, 8, false⟩,
  some ⟨.struct [(0, 22), (1, 9)], 2, .pair (.slice (.int .u8)) (.str), 40, true⟩,
  some ⟨.struct [(0, 22), (1, 9)], 2, .pair (.slice (.int .u8)) (.str), 40, true⟩,
  none,
  none,
  some ⟨.other, 1, .opq, 8, false⟩,
  none,
  some ⟨.other, 1, .opq, 8, false⟩,
  some ⟨.other, 1, .opq, 8, false⟩,
  some ⟨.other, 1, .opq, 8, false⟩,
  some ⟨.int .u64, 1, .int .u64, 8, false⟩,
  some ⟨.struct [(0, 22), (1, 3), (2, 167), (3, 2)], 4, .pair (.slice (.int .u8)) (.pair (.int .i64) (.pair (.int .u64) (.int .i64))), 48, true⟩,
  some ⟨.struct [(0, 22), (1, 3), (2, 167), (3, 2)], 4, .pair (.slice (.int .u8)) (.pair (.int .i64) (.pair (.int .u64) (.int .i64))), 48, true⟩,
  some ⟨.other, 1, .opq, 8, false⟩,
  some ⟨.other, 1, .opq, 8, false⟩,
  some ⟨.slice 9, 1, .slice (.str), 24, false⟩,
  some ⟨.other, 1, .opq, 8, false⟩,
  some ⟨.other, 1, .opq, 8, false⟩,
  some ⟨.other, 1, .opq, 8, false⟩,
  some ⟨.slice 204, 1, .slice (.pair (.int .i64) (.pair (.int .i64) (.pair (.int .i64) (.bool)))), 24, false⟩,
  some ⟨.other, 1, .opq, 8, false⟩,
  some ⟨.struct [(0, 2), (1, 2), (2, 9), (3, 48)], 4, .pair (.int .i64) (.pair (.int .i64) (.pair (.str) (.slice (.int .i64)))), 56, true⟩,
  some ⟨.struct [(0, 2), (1, 2), (2, 9), (3, 48)], 4, .pair (.int .i64) (.pair (.int .i64) (.pair (.str) (.slice (.int .i64)))), 56, true⟩,
  some ⟨.other, 1, .opq, 8, false⟩,
  some ⟨.other, 1, .opq, 8, false⟩,
  some ⟨.other, 1, .opq, 8, false⟩,
  some ⟨.ptr 125, 1, .opq, 8, false⟩,
  some ⟨.other, 1, .opq, 8, false⟩,
  some ⟨.other, 1, .opq, 8, false⟩,
  some ⟨.other, 1, .opq, 8, false⟩,
  some ⟨.other, 1, .opq, 8, false⟩,
  some ⟨.ptr 70, 1, .opq, 8, false⟩,
  some ⟨.other, 1, .opq, 8, false⟩,
  some ⟨.other, 1, .opq, 8, false⟩,
  some ⟨.other, 1, .opq, 8, false⟩,
  some ⟨.other, 1, .opq, 8, false⟩,
  some ⟨.other, 1, .opq, 8, false⟩,
  some ⟨.other, 1, .opq, 8, false⟩,
  some ⟨.other, 1, .opq, 8, false⟩,
  some ⟨.other, 1, .opq, 8, false⟩,
  some ⟨.int .u32, 1, .int .u32, 4, false⟩,
  some ⟨.arr 4 2, 4, .pair (.int .i64) (.pair (.int .i64) (.pair (.int .i64) (.int .i64))), 32, true⟩,
  some ⟨.arr 4 2, 4, .pair (.int .i64) (.pair (.int .i64) (.pair (.int .i64) (.int .i64))), 32, true⟩,
  some ⟨.other, 1, .opq, 8, false⟩,
  none,
  some ⟨.other, 1, .opq, 8, false⟩,
  some ⟨.struct [(0, 2), (1, 2), (2, 2), (3, 4)], 4, .pair (.int .i64) (.pair (.int .i64) (.pair (.int .i64) (.bool))), 32, true⟩,
  some ⟨.struct [(0, 2), (1, 2), (2, 2), (3, 4)], 4, .pair (.int .i64) (.pair (.int .i64) (.pair (.int .i64) (.bool))), 32, true⟩,
  some ⟨.other, 1, .opq, 8, false⟩,
  none,
  some ⟨.other, 1, .opq, 8, false⟩,
  some ⟨.other, 1, .opq, 8, false⟩,
  none,
  some ⟨.other, 1, .opq, 8, false⟩,
  some ⟨.other, 1, .opq, 8, false⟩,
  some ⟨.other, 1, .opq, 8, false⟩,
  some ⟨.other, 1, .opq, 8, false⟩,
  some ⟨.struct [(0, 17), (1, 17), (2, 17), (3, 9)], 4, .pair (.opq) (.pair (.opq) (.pair (.opq) (.str))), 40, true⟩,
  some ⟨.struct [(0, 17), (1, 17), (2, 17), (3, 9)], 4, .pair (.opq) (.pair (.opq) (.pair (.opq) (.str))), 40, true⟩,
  none,
  none,
  none,
  some ⟨.other, 1, .opq, 8, false⟩,
  some ⟨.int .u8, 1, .int .u8, 1, false⟩,
  some ⟨.int .u8, 1, .int .u8, 1, false⟩,
  some ⟨.other, 1, .opq, 8, false⟩,
  some ⟨.ptr 5, 1, .opq, 8, false⟩,
  some ⟨.int .i32, 1, .int .i32, 4, false⟩,
  some ⟨.int .i32, 1, .int .i32, 4, false⟩,
  some ⟨.struct [(0, 12), (1, 12), (2, 197), (3, 220), (4, 5), (5, 5), (6, 221), (7, 222), (8, 223), (9, 224), (10, 225)], 11, .pair (.int .u64) (.pair (.int .u64) (.pair (.int .u32) (.pair (.int .u8) (.pair (.int .u8) (.pair (.int .u8) (.pair (.int .u8) (.pair (.opq) (.pair (.opq) (.pair (.int .i32) (.int .i32)))))))))), 48, true⟩,
  some ⟨.struct [(0, 12), (1, 12), (2, 197), (3, 220), (4, 5), (5, 5), (6, 221), (7, 222), (8, 223), (9, 224), (10, 225)], 11, .pair (.int .u64) (.pair (.int .u64) (.pair (.int .u32) (.pair (.int .u8) (.pair (.int .u8) (.pair (.int .u8) (.pair (.int .u8) (.pair (.opq) (.pair (.opq) (.pair (.int .i32) (.int .i32)))))))))), 48, true⟩,
  some ⟨.other, 1, .opq, 8, false⟩,
  some ⟨.other, 1, .opq, 8, false⟩,
  none,
  some ⟨.other, 1, .opq, 8, false⟩,
  some ⟨.other, 1, .opq, 8, false⟩,
  some ⟨.ptr 235, 1, .opq, 8, false⟩,
  some ⟨.struct [(0, 233), (1, 22)], 2, .pair (.opq) (.slice (.int .u8)), 32, true⟩,
  some ⟨.struct [(0, 233), (1, 22)], 2, .pair (.opq) (.slice (.int .u8)), 32, true⟩,
  some ⟨.other, 1, .opq, 8, false⟩,
  none,
  none,
  none,
  some ⟨.other, 1, .opq, 8, false⟩,
  none,
  some ⟨.other, 1, .opq, 8, false⟩,
  none,
  some ⟨.other, 1, .opq, 8, false⟩,
  some ⟨.other, 1, .opq, 8, false⟩,
  some ⟨.other, 1, .opq, 8, false⟩,
  some ⟨.other, 1, .opq, 8, false⟩]
noncomputable def D : TypeId → Option TD := nthD tds
noncomputable abbrev Pr : Program := Go.Proofs.Try.prog
theorem tdsOk : okTds Pr (nthD tds) 0 tds = true := by kernel_rfl
theorem dok : Dok Pr D := dok_of tdsOk
theorem mixed : Pr.follows .mixedOrders = true := by kernel_rfl
abbrev R1 : Ty := .pair (.int .i64) (.pair (.int .i64) (.int .i64))
abbrev R2 : Ty := .pair (.int .i64) (.pair (.int .i64) (.pair (.int .i64) (.pair (.int .i64) (.pair (.int .i64) (.pair (.int .i64) (.int .i64))))))
abbrev V1 : Type := Int × Int × Int
abbrev V2 : Type := Int × Int × Int × Int × Int × Int × Int
noncomputable abbrev f6 : Func := Go.Proofs.Try.f6
noncomputable abbrev f27 : Func := Go.Proofs.Try.f27
noncomputable abbrev f30 : Func := Go.Proofs.Try.f30
noncomputable abbrev f38 : Func := Go.Proofs.Try.f38
noncomputable abbrev f39 : Func := Go.Proofs.Try.f39
noncomputable abbrev f40 : Func := Go.Proofs.Try.f40
noncomputable abbrev f43 : Func := Go.Proofs.Try.f43
noncomputable abbrev f46 : Func := Go.Proofs.Try.f46
noncomputable abbrev f47 : Func := Go.Proofs.Try.f47
noncomputable abbrev f54 : Func := Go.Proofs.Try.f54
noncomputable abbrev f91 : Func := Go.Proofs.Try.f91
noncomputable abbrev f94 : Func := Go.Proofs.Try.f94
noncomputable abbrev f95 : Func := Go.Proofs.Try.f95
noncomputable abbrev f96 : Func := Go.Proofs.Try.f96
noncomputable abbrev f104 : Func := Go.Proofs.Try.f104
noncomputable abbrev f105 : Func := Go.Proofs.Try.f105
noncomputable abbrev f106 : Func := Go.Proofs.Try.f106
noncomputable abbrev f130 : Func := Go.Proofs.Try.f130
noncomputable abbrev f132 : Func := Go.Proofs.Try.f132
noncomputable abbrev f133 : Func := Go.Proofs.Try.f133
noncomputable abbrev f134 : Func := Go.Proofs.Try.f134
noncomputable abbrev f135 : Func := Go.Proofs.Try.f135
noncomputable abbrev f136 : Func := Go.Proofs.Try.f136
noncomputable abbrev f137 : Func := Go.Proofs.Try.f137
noncomputable abbrev f143 : Func := Go.Proofs.Try.f143
noncomputable abbrev f144 : Func := Go.Proofs.Try.f144
noncomputable abbrev f147 : Func := Go.Proofs.Try.f147
noncomputable abbrev f159 : Func := Go.Proofs.Try.f159
noncomputable abbrev f160 : Func := Go.Proofs.Try.f160
/-! ### loop.example/g00038/spec.l01Source -/
noncomputable def spec_l01Source_v3.E3 : Env := ⟨D, [], [], []⟩
noncomputable def spec_l01Source_v3_l3_step (rec : List Int → Int → List Int → Int → Int → Int → Option ((List Int × List Int × Int × Int × Int × Unit))) (y0 : List Int) (y1 : Int) (y2 : List Int) (y3 : Int) (y4 : Int) (y5 : Int) : Option ((List Int × List Int × Int × Int × Int × Unit)) :=
 let b1 : Bool := decide (y1 < (y0.length : Int))
 bif (b1 && decide (y1 < 64)) then
  let x2 : Int := (IntKind.u64.wrap ((rd (.int .u8) y0 y1)))
  let x3 : Int := (IntKind.u64.wrap ((bits .xor .u64 y4 x2) * 1099511628211))
  bif decide (0 ≤ y1) && decide (y1 < (y0.length : Int)) then
   rec y0 (wrap64 (y1 + 1)) y2 y3 x3 y5
  else none
 else
  some (y0, y2, y3, y4, y5, ())
noncomputable def spec_l01Source_v3_l3 : Nat → List Int → Int → List Int → Int → Int → Int → Option ((List Int × List Int × Int × Int × Int × Unit))
 | 0 => fun _ _ _ _ _ _ => none
 | n + 1 => spec_l01Source_v3_l3_step (spec_l01Source_v3_l3 n)
noncomputable def spec_l01Source_v3_l3.ent : LEntry := ⟨(.cell (.val .imm (.slice (.int .u8))) :: (sk 2 (.cell (.fix (.ptr 7 0)) :: (.cell (.val .bor (.int .i64)) :: (sk 41 []))))), rk 7 ([.val .imm (.slice (.int .u8)), .val .bor (.int .i64), .val .bor (.int .u64), .val .bor (.int .i64)] :: (rk 38 [])), [], [], [⟨some 0, (.cell (.val .imm (.slice (.int .u8))) :: (sk 2 (.cell (.fix (.ptr 7 0)) :: (sk 42 [])))), rk 7 ([.val .imm (.slice (.int .u8)), .val .bor (.int .i64), .val .bor (.int .u64), .val .bor (.int .i64)] :: (rk 38 [])), [], []⟩], fun v => spec_l01Source_v3_l3 K0 v.1 v.2.1 v.2.2.1 v.2.2.2.1 v.2.2.2.2.1 v.2.2.2.2.2.1⟩
theorem spec_l01Source_v3_l3.eq : ∀ rec v, evStep spec_l01Source_v3.E3 (bodyAt 3 f43) spec_l01Source_v3_l3.ent.ins spec_l01Source_v3_l3.ent.rts spec_l01Source_v3_l3.ent.hm spec_l01Source_v3_l3.ent.nl spec_l01Source_v3_l3.ent.xs rec v = spec_l01Source_v3_l3_step (fun c0 c1 c2 c3 c4 c5 => rec (c0, c1, c2, c3, c4, c5, ())) v.1 v.2.1 v.2.2.1 v.2.2.2.1 v.2.2.2.2.1 v.2.2.2.2.2.1 := by intro rec v; kernel_rfl
noncomputable def spec_l01Source_v3.E : Env := ⟨D, [], [], [(3, spec_l01Source_v3_l3.ent)]⟩
noncomputable def spec_l01Source_v3 (a0 : List Int) : Option (List Int × Int × Int × Int × Unit) :=
 (spec_l01Source_v3_l3 K0 a0 0 a0 0 88172645463325252 0).bind fun o4 =>
 let b5 : Bool := decide ((o4.1.length : Int) > 12)
 let l8 : List Int := (bif b5 then o4.2.1 else o4.2.1)
 let x9 : Int := (bif b5 then o4.2.2.1 else o4.2.2.1)
 let x10 : Int := (bif b5 then o4.2.2.2.1 else o4.2.2.2.1)
 let x11 : Int := (bif b5 then 12 else (o4.1.length : Int))
 some (l8, x9, x10, x11, ())
noncomputable def spec_l01Source_v3.ent : Entry := ⟨[false], [.cell (.val .imm (.slice (.int .u8)))], [.box [.val .imm (.slice (.int .u8)), .val .bor (.int .i64), .val .bor (.int .u64), .val .bor (.int .i64)]], [], fun v => spec_l01Source_v3 v.1⟩
theorem spec_l01Source_v3.eq : ∀ v, evFn spec_l01Source_v3.E f43 spec_l01Source_v3.ent.ptrs spec_l01Source_v3.ent.ins spec_l01Source_v3.ent.rets spec_l01Source_v3.ent.outs v = spec_l01Source_v3.ent.f v := by intro v; kernel_rfl
theorem spec_l01Source_v3.fok : ∀ q ∈ ([] : List (Nat × Entry)), EntryOK Pr q.1 q.2 := by intro q hq; simp at hq
theorem spec_l01Source_v3_l3.it : ∀ n v, iter (evStep spec_l01Source_v3.E3 (bodyAt 3 f43) spec_l01Source_v3_l3.ent.ins spec_l01Source_v3_l3.ent.rts spec_l01Source_v3_l3.ent.hm spec_l01Source_v3_l3.ent.nl spec_l01Source_v3_l3.ent.xs) n v = spec_l01Source_v3_l3 n v.1 v.2.1 v.2.2.1 v.2.2.2.1 v.2.2.2.2.1 v.2.2.2.2.2.1 := by
 intro n
 induction n with
 | zero => intro v; rfl
 | succ n ih =>
  intro v
  show (evStep spec_l01Source_v3.E3 (bodyAt 3 f43) spec_l01Source_v3_l3.ent.ins spec_l01Source_v3_l3.ent.rts spec_l01Source_v3_l3.ent.hm spec_l01Source_v3_l3.ent.nl spec_l01Source_v3_l3.ent.xs) (iter (evStep spec_l01Source_v3.E3 (bodyAt 3 f43) spec_l01Source_v3_l3.ent.ins spec_l01Source_v3_l3.ent.rts spec_l01Source_v3_l3.ent.hm spec_l01Source_v3_l3.ent.nl spec_l01Source_v3_l3.ent.xs) n) v = _
  rw [spec_l01Source_v3_l3.eq, show (fun c0 c1 c2 c3 c4 c5 => iter (evStep spec_l01Source_v3.E3 (bodyAt 3 f43) spec_l01Source_v3_l3.ent.ins spec_l01Source_v3_l3.ent.rts spec_l01Source_v3_l3.ent.hm spec_l01Source_v3_l3.ent.nl spec_l01Source_v3_l3.ent.xs) n (c0, c1, c2, c3, c4, c5, ())) = spec_l01Source_v3_l3 n from by funext c0 c1 c2 c3 c4 c5; exact ih _]
  rfl
theorem spec_l01Source_v3_l3.fr : firstRegion (bodyAt 3 f43) = 3 := by kernel_rfl
theorem spec_l01Source_v3_l3.ls : loopsOf (bodyAt 3 f43) = [] := by kernel_rfl
theorem spec_l01Source_v3_l3.lok {E : Env} (hpin : spec_l01Source_v3.E3.pin = E.pin) (hfind : find 3 E.loops = some spec_l01Source_v3_l3.ent) : LoopOK Pr E (bodyAt 3 f43) :=
 loop_of (E1 := spec_l01Source_v3.E3) (EnvOK.of dok spec_l01Source_v3.fok) mixed hpin (by rw [spec_l01Source_v3_l3.fr]; exact hfind) spec_l01Source_v3_l3.ls (by intro l hl; simp at hl) (fun v => (spec_l01Source_v3_l3.it K0 v).symm)
theorem spec_l01Source_v3.ls : loopsOf (bodyOf f43) = [bodyAt 3 f43] := by kernel_rfl
theorem spec_l01Source_v3.ok : EntryOK Pr 43 spec_l01Source_v3.ent :=
 entry_ok (E := spec_l01Source_v3.E) (EnvOK.of dok spec_l01Source_v3.fok) mixed (fn := f43) (by kernel_rfl) (by kernel_rfl) (by decide) spec_l01Source_v3.ls (by intro l hl; simp only [List.mem_singleton] at hl; subst hl; exact spec_l01Source_v3_l3.lok rfl rfl) spec_l01Source_v3.eq
/-! ### (*loop.example/g00038/spec.l01Src).n -/
noncomputable def spec_l01Src_n_v2.E : Env := ⟨D, [0], [], []⟩
noncomputable def spec_l01Src_n_v2 (a0 : List Int) (a1 : Int) (a2 : Int) (a3 : Int) (a4 : Int) : Option (Int × List Int × Int × Int × Int × Unit) :=
 bif decide (a4 ≤ 1) then
  some (0, a0, a1, a2, a3, ())
 else
  let b1 : Bool := decide (a1 < (a0.length : Int))
  let x2 : Int := (IntKind.u64.wrap ((rd (.int .u8) a0 a1)))
  let x5 : Int := (bif b1 then (wrap64 (a1 + 1)) else a1)
  bif (!b1 || (decide (0 ≤ a1) && decide (a1 < (a0.length : Int)))) then
   let x6 : Int := shl .u64 (bif b1 then a2 else a2) 13
   let x7 : Int := (bits .xor .u64 (bif b1 then a2 else a2) x6)
   bif decide (0 ≤ (13 : Int)) then
    let x8 : Int := (bits .xor .u64 x7 (shr .u64 x7 7))
    bif decide (0 ≤ (7 : Int)) then
     let x9 : Int := (bits .xor .u64 x8 (shl .u64 x8 17))
     bif decide (0 ≤ (17 : Int)) then
      let x10 : Int := (IntKind.u64.wrap ((bif b1 then x2 else 0) + shr .u64 x9 20))
      let x11 : Int := (IntKind.u64.wrap ((bif b1 then a4 else a4)))
      let x12 : Int := (wrap64 ((Int.tmod x10 x11)))
      bif (decide (0 ≤ (20 : Int))) && (!(x11 == 0)) then
       some (x12, (bif b1 then a0 else a0), x5, x9, (bif b1 then a3 else a3), ())
      else none
     else none
    else none
   else none
  else none
noncomputable def spec_l01Src_n_v2.ent : Entry := ⟨[true, false], [.agg [.val .imm (.slice (.int .u8)), .val .bor (.int .i64), .val .bor (.int .u64), .val .bor (.int .i64)], .cell (.val .bor (.int .i64))], [.cell (.val .bor (.int .i64))], [.agg [.val .imm (.slice (.int .u8)), .val .bor (.int .i64), .val .bor (.int .u64), .val .bor (.int .i64)]], fun v => spec_l01Src_n_v2 v.1 v.2.1 v.2.2.1 v.2.2.2.1 v.2.2.2.2.1⟩
theorem spec_l01Src_n_v2.eq : ∀ v, evFn spec_l01Src_n_v2.E f46 spec_l01Src_n_v2.ent.ptrs spec_l01Src_n_v2.ent.ins spec_l01Src_n_v2.ent.rets spec_l01Src_n_v2.ent.outs v = spec_l01Src_n_v2.ent.f v := by intro v; kernel_rfl
theorem spec_l01Src_n_v2.fok : ∀ q ∈ ([] : List (Nat × Entry)), EntryOK Pr q.1 q.2 := by intro q hq; simp at hq
theorem spec_l01Src_n_v2.ls : loopsOf (bodyOf f46) = [] := by kernel_rfl
theorem spec_l01Src_n_v2.ok : EntryOK Pr 46 spec_l01Src_n_v2.ent :=
 entry_ok (E := spec_l01Src_n_v2.E) (EnvOK.of dok spec_l01Src_n_v2.fok) mixed (fn := f46) (by kernel_rfl) (by kernel_rfl) (by decide) spec_l01Src_n_v2.ls (by intro l hl; simp at hl) spec_l01Src_n_v2.eq
/-! ### (*loop.example/g00038/spec.l01Src).one -/
noncomputable def spec_l01Src_one_v2.E : Env := ⟨D, [0], [(46, spec_l01Src_n_v2.ent)], []⟩
noncomputable def spec_l01Src_one_v2 (a0 : List Int) (a1 : Int) (a2 : Int) (a3 : Int) (a4 : Int) : Option (Bool × List Int × Int × Int × Int × Unit) :=
 (spec_l01Src_n_v2 a0 a1 a2 a3 a4).bind fun r1 =>
 some ((r1.1 == 0), r1.2.1, r1.2.2.1, r1.2.2.2.1, r1.2.2.2.2.1, ())
noncomputable def spec_l01Src_one_v2.ent : Entry := ⟨[true, false], [.agg [.val .imm (.slice (.int .u8)), .val .bor (.int .i64), .val .bor (.int .u64), .val .bor (.int .i64)], .cell (.val .bor (.int .i64))], [.cell (.val .bor (.bool))], [.agg [.val .imm (.slice (.int .u8)), .val .bor (.int .i64), .val .bor (.int .u64), .val .bor (.int .i64)]], fun v => spec_l01Src_one_v2 v.1 v.2.1 v.2.2.1 v.2.2.2.1 v.2.2.2.2.1⟩
theorem spec_l01Src_one_v2.eq : ∀ v, evFn spec_l01Src_one_v2.E f47 spec_l01Src_one_v2.ent.ptrs spec_l01Src_one_v2.ent.ins spec_l01Src_one_v2.ent.rets spec_l01Src_one_v2.ent.outs v = spec_l01Src_one_v2.ent.f v := by intro v; kernel_rfl
theorem spec_l01Src_one_v2.fok : ∀ q ∈ [((46 : Nat), spec_l01Src_n_v2.ent)], EntryOK Pr q.1 q.2 := by
 intro q hq
 simp only [List.mem_cons, List.mem_nil_iff, or_false] at hq
 rcases hq with rfl
 · exact spec_l01Src_n_v2.ok
theorem spec_l01Src_one_v2.ls : loopsOf (bodyOf f47) = [] := by kernel_rfl
theorem spec_l01Src_one_v2.ok : EntryOK Pr 47 spec_l01Src_one_v2.ent :=
 entry_ok (E := spec_l01Src_one_v2.E) (EnvOK.of dok spec_l01Src_one_v2.fok) mixed (fn := f47) (by kernel_rfl) (by kernel_rfl) (by decide) spec_l01Src_one_v2.ls (by intro l hl; simp at hl) spec_l01Src_one_v2.eq
/-! ### (*loop.example/g00038/spec.l01Src).timer -/
noncomputable def spec_l01Src_timer_v2.E : Env := ⟨D, [0], [(46, spec_l01Src_n_v2.ent)], []⟩
noncomputable def spec_l01Src_timer_v2 (a0 : List Int) (a1 : Int) (a2 : Int) (a3 : Int) : Option (Int × Int × Int × List Int × Int × Int × Int × Unit) :=
 (spec_l01Src_n_v2 a0 a1 a2 a3 100).bind fun r1 =>
 let l2 : List Int := ([0, 1, 7, 30] : List Int)
 (spec_l01Src_n_v2 r1.2.1 r1.2.2.1 r1.2.2.2.1 r1.2.2.2.2.1 4).bind fun r3 =>
 (spec_l01Src_n_v2 r3.2.1 r3.2.2.1 r3.2.2.2.1 r3.2.2.2.2.1 3).bind fun r4 =>
 let x5 : Int := (wrap64 ((1 : Int) + r4.1))
 bif decide (0 ≤ r3.1) && decide (r3.1 < (l2.length : Int)) then
  some (r1.1, (rd (.int .i64) l2 r3.1), x5, r4.2.1, r4.2.2.1, r4.2.2.2.1, r4.2.2.2.2.1, ())
 else none
noncomputable def spec_l01Src_timer_v2.ent : Entry := ⟨[true], [.agg [.val .imm (.slice (.int .u8)), .val .bor (.int .i64), .val .bor (.int .u64), .val .bor (.int .i64)]], [.agg [.val .bor (.int .i64), .val .bor (.int .i64), .val .bor (.int .i64)]], [.agg [.val .imm (.slice (.int .u8)), .val .bor (.int .i64), .val .bor (.int .u64), .val .bor (.int .i64)]], fun v => spec_l01Src_timer_v2 v.1 v.2.1 v.2.2.1 v.2.2.2.1⟩
theorem spec_l01Src_timer_v2.eq : ∀ v, evFn spec_l01Src_timer_v2.E f144 spec_l01Src_timer_v2.ent.ptrs spec_l01Src_timer_v2.ent.ins spec_l01Src_timer_v2.ent.rets spec_l01Src_timer_v2.ent.outs v = spec_l01Src_timer_v2.ent.f v := by intro v; kernel_rfl
theorem spec_l01Src_timer_v2.fok : ∀ q ∈ [((46 : Nat), spec_l01Src_n_v2.ent)], EntryOK Pr q.1 q.2 := by
 intro q hq
 simp only [List.mem_cons, List.mem_nil_iff, or_false] at hq
 rcases hq with rfl
 · exact spec_l01Src_n_v2.ok
theorem spec_l01Src_timer_v2.ls : loopsOf (bodyOf f144) = [] := by kernel_rfl
theorem spec_l01Src_timer_v2.ok : EntryOK Pr 144 spec_l01Src_timer_v2.ent :=
 entry_ok (E := spec_l01Src_timer_v2.E) (EnvOK.of dok spec_l01Src_timer_v2.fok) mixed (fn := f144) (by kernel_rfl) (by kernel_rfl) (by decide) spec_l01Src_timer_v2.ls (by intro l hl; simp at hl) spec_l01Src_timer_v2.eq
/-! ### (*loop.example/g00038/spec.l01Src).clock -/
noncomputable def spec_l01Src_clock_v2.E4 : Env := ⟨D, [0], [(46, spec_l01Src_n_v2.ent), (47, spec_l01Src_one_v2.ent), (144, spec_l01Src_timer_v2.ent)], []⟩
noncomputable def spec_l01Src_clock_v2_l4_step (rec : Int → List Int → Int → Int → Int → Int → Int → Int → Int → Int → Bool → Int → Int → Int → Int → Int → Bool → List V1 → Option ((List Int × Int × Int × Int × Int × Int × Int × Int × Int × Bool × Int × Int × Int × Int × Int × Bool × List V1 × Unit))) (y0 : Int) (y1 : List Int) (y2 : Int) (y3 : Int) (y4 : Int) (y5 : Int) (y6 : Int) (y7 : Int) (y8 : Int) (y9 : Int) (y10 : Bool) (y11 : Int) (y12 : Int) (y13 : Int) (y14 : Int) (y15 : Int) (y16 : Bool) (y17 : List V1) : Option ((List Int × Int × Int × Int × Int × Int × Int × Int × Int × Bool × Int × Int × Int × Int × Int × Bool × List V1 × Unit)) :=
 bif decide (y0 > 0) then
  (spec_l01Src_timer_v2 y1 y2 y3 y4).bind fun r12 =>
  let l13 : List V1 := [(r12.1, r12.2.1, r12.2.2.1)]
  bif roomy ((y17.length : Int) + (l13.length : Int)) 24 then
   rec (wrap64 (y0 - 1)) r12.2.2.2.1 r12.2.2.2.2.1 r12.2.2.2.2.2.1 r12.2.2.2.2.2.2.1 y5 y6 y7 y8 y9 y10 y11 y12 y13 y14 y15 y16 (y17 ++ l13)
  else none
 else
  some (y1, y2, y3, y4, y5, y6, y7, y8, y9, y10, y11, y12, y13, y14, y15, y16, y17, ())
noncomputable def spec_l01Src_clock_v2_l4 : Nat → Int → List Int → Int → Int → Int → Int → Int → Int → Int → Int → Bool → Int → Int → Int → Int → Int → Bool → List V1 → Option ((List Int × Int × Int × Int × Int × Int × Int × Int × Int × Bool × Int × Int × Int × Int × Int × Bool × List V1 × Unit))
 | 0 => fun _ _ _ _ _ _ _ _ _ _ _ _ _ _ _ _ _ _ => none
 | n + 1 => spec_l01Src_clock_v2_l4_step (spec_l01Src_clock_v2_l4 n)
noncomputable def spec_l01Src_clock_v2_l4.ent : LEntry := ⟨(.cell (.fix (.ptr 0 0)) :: (sk 1 (.cell (.fix (.ptr 2 0)) :: (.cell (.fix (.ptr 3 0)) :: (.cell (.val .bor (.int .i64)) :: (sk 36 [])))))), ([.val .imm (.slice (.int .u8)), .val .bor (.int .i64), .val .bor (.int .u64), .val .bor (.int .i64)] :: (rk 1 ([.val .bor (.int .i64), .val .bor (.int .i64), .val .bor (.int .i64), .val .bor (.int .i64), .val .bor (.int .i64), .val .bor (.bool), .fix (.nil)] :: ([.val .bor (.int .i64), .val .bor (.int .i64), .val .bor (.int .i64), .val .bor (.int .i64), .val .bor (.int .i64), .val .bor (.bool), .val .own (.slice R1)] :: (rk 37 []))))), [], [(3, 6, true, .pair (.int .i64) (.pair (.int .i64) (.int .i64)))], [⟨some 0, (.cell (.fix (.ptr 0 0)) :: (sk 1 (.cell (.fix (.ptr 2 0)) :: (.cell (.fix (.ptr 3 0)) :: (sk 37 []))))), ([.val .imm (.slice (.int .u8)), .val .bor (.int .i64), .val .bor (.int .u64), .val .bor (.int .i64)] :: (rk 1 ([.val .bor (.int .i64), .val .bor (.int .i64), .val .bor (.int .i64), .val .bor (.int .i64), .val .bor (.int .i64), .val .bor (.bool), .fix (.nil)] :: ([.val .bor (.int .i64), .val .bor (.int .i64), .val .bor (.int .i64), .val .bor (.int .i64), .val .bor (.int .i64), .val .bor (.bool), .val .own (.slice R1)] :: (rk 37 []))))), [], []⟩], fun v => spec_l01Src_clock_v2_l4 K0 v.1 v.2.1 v.2.2.1 v.2.2.2.1 v.2.2.2.2.1 v.2.2.2.2.2.1 v.2.2.2.2.2.2.1 v.2.2.2.2.2.2.2.1 v.2.2.2.2.2.2.2.2.1 v.2.2.2.2.2.2.2.2.2.1 v.2.2.2.2.2.2.2.2.2.2.1 v.2.2.2.2.2.2.2.2.2.2.2.1 v.2.2.2.2.2.2.2.2.2.2.2.2.1 v.2.2.2.2.2.2.2.2.2.2.2.2.2.1 v.2.2.2.2.2.2.2.2.2.2.2.2.2.2.1 v.2.2.2.2.2.2.2.2.2.2.2.2.2.2.2.1 v.2.2.2.2.2.2.2.2.2.2.2.2.2.2.2.2.1 v.2.2.2.2.2.2.2.2.2.2.2.2.2.2.2.2.2.1⟩
theorem spec_l01Src_clock_v2_l4.eq : ∀ rec v, evStep spec_l01Src_clock_v2.E4 (bodyAt 4 f143) spec_l01Src_clock_v2_l4.ent.ins spec_l01Src_clock_v2_l4.ent.rts spec_l01Src_clock_v2_l4.ent.hm spec_l01Src_clock_v2_l4.ent.nl spec_l01Src_clock_v2_l4.ent.xs rec v = spec_l01Src_clock_v2_l4_step (fun c0 c1 c2 c3 c4 c5 c6 c7 c8 c9 c10 c11 c12 c13 c14 c15 c16 c17 => rec (c0, c1, c2, c3, c4, c5, c6, c7, c8, c9, c10, c11, c12, c13, c14, c15, c16, c17, ())) v.1 v.2.1 v.2.2.1 v.2.2.2.1 v.2.2.2.2.1 v.2.2.2.2.2.1 v.2.2.2.2.2.2.1 v.2.2.2.2.2.2.2.1 v.2.2.2.2.2.2.2.2.1 v.2.2.2.2.2.2.2.2.2.1 v.2.2.2.2.2.2.2.2.2.2.1 v.2.2.2.2.2.2.2.2.2.2.2.1 v.2.2.2.2.2.2.2.2.2.2.2.2.1 v.2.2.2.2.2.2.2.2.2.2.2.2.2.1 v.2.2.2.2.2.2.2.2.2.2.2.2.2.2.1 v.2.2.2.2.2.2.2.2.2.2.2.2.2.2.2.1 v.2.2.2.2.2.2.2.2.2.2.2.2.2.2.2.2.1 v.2.2.2.2.2.2.2.2.2.2.2.2.2.2.2.2.2.1 := by intro rec v; kernel_rfl
noncomputable def spec_l01Src_clock_v2.E : Env := ⟨D, [0], [(46, spec_l01Src_n_v2.ent), (47, spec_l01Src_one_v2.ent), (144, spec_l01Src_timer_v2.ent)], [(4, spec_l01Src_clock_v2_l4.ent)]⟩
noncomputable def spec_l01Src_clock_v2 (a0 : List Int) (a1 : Int) (a2 : Int) (a3 : Int) : Option (Int × Int × Int × Int × Int × Bool × List V1 × List Int × Int × Int × Int × Unit) :=
 (spec_l01Src_n_v2 a0 a1 a2 a3 50).bind fun r1 =>
 (spec_l01Src_n_v2 r1.2.1 r1.2.2.1 r1.2.2.2.1 r1.2.2.2.2.1 50).bind fun r2 =>
 let l3 : List Int := ([1, 1, 2, 3, 0] : List Int)
 (spec_l01Src_n_v2 r2.2.1 r2.2.2.1 r2.2.2.2.1 r2.2.2.2.2.1 5).bind fun r4 =>
 let l5 : List Int := ([1, 1, 2, 7] : List Int)
 (spec_l01Src_n_v2 r4.2.1 r4.2.2.1 r4.2.2.2.1 r4.2.2.2.2.1 4).bind fun r6 =>
 (spec_l01Src_one_v2 r6.2.1 r6.2.2.1 r6.2.2.2.1 r6.2.2.2.2.1 6).bind fun r7 =>
 bif (decide (0 ≤ r4.1) && decide (r4.1 < (l3.length : Int))) && (decide (0 ≤ r6.1) && decide (r6.1 < (l5.length : Int))) then
  (spec_l01Src_n_v2 r7.2.1 r7.2.2.1 r7.2.2.2.1 r7.2.2.2.2.1 (rd (.int .i64) l5 r6.1)).bind fun r8 =>
  (spec_l01Src_n_v2 r8.2.1 r8.2.2.1 r8.2.2.2.1 r8.2.2.2.2.1 4).bind fun r9 =>
  (spec_l01Src_clock_v2_l4 K0 r9.1 r9.2.1 r9.2.2.1 r9.2.2.2.1 r9.2.2.2.2.1 0 0 0 0 0 false r1.1 r2.1 (rd (.int .i64) l3 r4.1) (rd (.int .i64) l5 r6.1) r8.1 r7.1 []).bind fun o14 =>
  let x15 : Int := o14.2.2.2.2.2.2.2.2.2.2.1
  let x16 : Int := o14.2.2.2.2.2.2.2.2.2.2.2.1
  let x17 : Int := o14.2.2.2.2.2.2.2.2.2.2.2.2.1
  let x18 : Int := o14.2.2.2.2.2.2.2.2.2.2.2.2.2.1
  let x19 : Int := o14.2.2.2.2.2.2.2.2.2.2.2.2.2.2.1
  let b20 : Bool := o14.2.2.2.2.2.2.2.2.2.2.2.2.2.2.2.1
  let l21 : List V1 := o14.2.2.2.2.2.2.2.2.2.2.2.2.2.2.2.2.1
  some (x15, x16, x17, x18, x19, b20, l21, o14.1, o14.2.1, o14.2.2.1, o14.2.2.2.1, ())
 else none
noncomputable def spec_l01Src_clock_v2.ent : Entry := ⟨[true], [.agg [.val .imm (.slice (.int .u8)), .val .bor (.int .i64), .val .bor (.int .u64), .val .bor (.int .i64)]], [.agg [.val .bor (.int .i64), .val .bor (.int .i64), .val .bor (.int .i64), .val .bor (.int .i64), .val .bor (.int .i64), .val .bor (.bool), .val .own (.slice R1)]], [.agg [.val .imm (.slice (.int .u8)), .val .bor (.int .i64), .val .bor (.int .u64), .val .bor (.int .i64)]], fun v => spec_l01Src_clock_v2 v.1 v.2.1 v.2.2.1 v.2.2.2.1⟩
theorem spec_l01Src_clock_v2.eq : ∀ v, evFn spec_l01Src_clock_v2.E f143 spec_l01Src_clock_v2.ent.ptrs spec_l01Src_clock_v2.ent.ins spec_l01Src_clock_v2.ent.rets spec_l01Src_clock_v2.ent.outs v = spec_l01Src_clock_v2.ent.f v := by intro v; kernel_rfl
theorem spec_l01Src_clock_v2.fok : ∀ q ∈ [((46 : Nat), spec_l01Src_n_v2.ent), ((47 : Nat), spec_l01Src_one_v2.ent), ((144 : Nat), spec_l01Src_timer_v2.ent)], EntryOK Pr q.1 q.2 := by
 intro q hq
 simp only [List.mem_cons, List.mem_nil_iff, or_false] at hq
 rcases hq with rfl | rfl | rfl
 · exact spec_l01Src_n_v2.ok
 · exact spec_l01Src_one_v2.ok
 · exact spec_l01Src_timer_v2.ok
theorem spec_l01Src_clock_v2_l4.it : ∀ n v, iter (evStep spec_l01Src_clock_v2.E4 (bodyAt 4 f143) spec_l01Src_clock_v2_l4.ent.ins spec_l01Src_clock_v2_l4.ent.rts spec_l01Src_clock_v2_l4.ent.hm spec_l01Src_clock_v2_l4.ent.nl spec_l01Src_clock_v2_l4.ent.xs) n v = spec_l01Src_clock_v2_l4 n v.1 v.2.1 v.2.2.1 v.2.2.2.1 v.2.2.2.2.1 v.2.2.2.2.2.1 v.2.2.2.2.2.2.1 v.2.2.2.2.2.2.2.1 v.2.2.2.2.2.2.2.2.1 v.2.2.2.2.2.2.2.2.2.1 v.2.2.2.2.2.2.2.2.2.2.1 v.2.2.2.2.2.2.2.2.2.2.2.1 v.2.2.2.2.2.2.2.2.2.2.2.2.1 v.2.2.2.2.2.2.2.2.2.2.2.2.2.1 v.2.2.2.2.2.2.2.2.2.2.2.2.2.2.1 v.2.2.2.2.2.2.2.2.2.2.2.2.2.2.2.1 v.2.2.2.2.2.2.2.2.2.2.2.2.2.2.2.2.1 v.2.2.2.2.2.2.2.2.2.2.2.2.2.2.2.2.2.1 := by
 intro n
 induction n with
 | zero => intro v; rfl
 | succ n ih =>
  intro v
  show (evStep spec_l01Src_clock_v2.E4 (bodyAt 4 f143) spec_l01Src_clock_v2_l4.ent.ins spec_l01Src_clock_v2_l4.ent.rts spec_l01Src_clock_v2_l4.ent.hm spec_l01Src_clock_v2_l4.ent.nl spec_l01Src_clock_v2_l4.ent.xs) (iter (evStep spec_l01Src_clock_v2.E4 (bodyAt 4 f143) spec_l01Src_clock_v2_l4.ent.ins spec_l01Src_clock_v2_l4.ent.rts spec_l01Src_clock_v2_l4.ent.hm spec_l01Src_clock_v2_l4.ent.nl spec_l01Src_clock_v2_l4.ent.xs) n) v = _
  rw [spec_l01Src_clock_v2_l4.eq, show (fun c0 c1 c2 c3 c4 c5 c6 c7 c8 c9 c10 c11 c12 c13 c14 c15 c16 c17 => iter (evStep spec_l01Src_clock_v2.E4 (bodyAt 4 f143) spec_l01Src_clock_v2_l4.ent.ins spec_l01Src_clock_v2_l4.ent.rts spec_l01Src_clock_v2_l4.ent.hm spec_l01Src_clock_v2_l4.ent.nl spec_l01Src_clock_v2_l4.ent.xs) n (c0, c1, c2, c3, c4, c5, c6, c7, c8, c9, c10, c11, c12, c13, c14, c15, c16, c17, ())) = spec_l01Src_clock_v2_l4 n from by funext c0 c1 c2 c3 c4 c5 c6 c7 c8 c9 c10 c11 c12 c13 c14 c15 c16 c17; exact ih _]
  rfl
theorem spec_l01Src_clock_v2_l4.fr : firstRegion (bodyAt 4 f143) = 4 := by kernel_rfl
theorem spec_l01Src_clock_v2_l4.ls : loopsOf (bodyAt 4 f143) = [] := by kernel_rfl
theorem spec_l01Src_clock_v2_l4.lok {E : Env} (hpin : spec_l01Src_clock_v2.E4.pin = E.pin) (hfind : find 4 E.loops = some spec_l01Src_clock_v2_l4.ent) : LoopOK Pr E (bodyAt 4 f143) :=
 loop_of (E1 := spec_l01Src_clock_v2.E4) (EnvOK.of dok spec_l01Src_clock_v2.fok) mixed hpin (by rw [spec_l01Src_clock_v2_l4.fr]; exact hfind) spec_l01Src_clock_v2_l4.ls (by intro l hl; simp at hl) (fun v => (spec_l01Src_clock_v2_l4.it K0 v).symm)
theorem spec_l01Src_clock_v2.ls : loopsOf (bodyOf f143) = [bodyAt 4 f143] := by kernel_rfl
theorem spec_l01Src_clock_v2.ok : EntryOK Pr 143 spec_l01Src_clock_v2.ent :=
 entry_ok (E := spec_l01Src_clock_v2.E) (EnvOK.of dok spec_l01Src_clock_v2.fok) mixed (fn := f143) (by kernel_rfl) (by kernel_rfl) (by decide) spec_l01Src_clock_v2.ls (by intro l hl; simp only [List.mem_singleton] at hl; subst hl; exact spec_l01Src_clock_v2_l4.lok rfl rfl) spec_l01Src_clock_v2.eq
/-! ### (*loop.example/g00038/spec.l01Src).anyClock -/
noncomputable def spec_l01Src_anyClock_v2.E22 : Env := ⟨D, [0], [(143, spec_l01Src_clock_v2.ent), (47, spec_l01Src_one_v2.ent), (46, spec_l01Src_n_v2.ent), (144, spec_l01Src_timer_v2.ent)], []⟩
noncomputable def spec_l01Src_anyClock_v2_l22_step (rec : Int → List Int → Int → Int → Int → Int → Int → Int → Int → Int → Bool → Int → Int → Int → Int → Int → Bool → List V1 → Option ((List Int × Int × Int × Int × Int × Int × Int × Int × Int × Bool × Int × Int × Int × Int × Int × Bool × List V1 × Unit))) (y0 : Int) (y1 : List Int) (y2 : Int) (y3 : Int) (y4 : Int) (y5 : Int) (y6 : Int) (y7 : Int) (y8 : Int) (y9 : Int) (y10 : Bool) (y11 : Int) (y12 : Int) (y13 : Int) (y14 : Int) (y15 : Int) (y16 : Bool) (y17 : List V1) : Option ((List Int × Int × Int × Int × Int × Int × Int × Int × Int × Bool × Int × Int × Int × Int × Int × Bool × List V1 × Unit)) :=
 bif decide (y0 > 0) then
  (spec_l01Src_timer_v2 y1 y2 y3 y4).bind fun r25 =>
  let l26 : List V1 := [(r25.1, r25.2.1, r25.2.2.1)]
  bif roomy ((y17.length : Int) + (l26.length : Int)) 24 then
   rec (wrap64 (y0 - 1)) r25.2.2.2.1 r25.2.2.2.2.1 r25.2.2.2.2.2.1 r25.2.2.2.2.2.2.1 y5 y6 y7 y8 y9 y10 y11 y12 y13 y14 y15 y16 (y17 ++ l26)
  else none
 else
  some (y1, y2, y3, y4, y5, y6, y7, y8, y9, y10, y11, y12, y13, y14, y15, y16, y17, ())
noncomputable def spec_l01Src_anyClock_v2_l22 : Nat → Int → List Int → Int → Int → Int → Int → Int → Int → Int → Int → Bool → Int → Int → Int → Int → Int → Bool → List V1 → Option ((List Int × Int × Int × Int × Int × Int × Int × Int × Int × Bool × Int × Int × Int × Int × Int × Bool × List V1 × Unit))
 | 0 => fun _ _ _ _ _ _ _ _ _ _ _ _ _ _ _ _ _ _ => none
 | n + 1 => spec_l01Src_anyClock_v2_l22_step (spec_l01Src_anyClock_v2_l22 n)
noncomputable def spec_l01Src_anyClock_v2_l22.ent : LEntry := ⟨(.cell (.fix (.ptr 0 0)) :: (sk 1 (.cell (.fix (.ptr 2 0)) :: (.cell (.fix (.ptr 3 0)) :: (.cell (.val .bor (.int .i64)) :: (sk 93 [])))))), ([.val .imm (.slice (.int .u8)), .val .bor (.int .i64), .val .bor (.int .u64), .val .bor (.int .i64)] :: (rk 1 ([.val .bor (.int .i64), .val .bor (.int .i64), .val .bor (.int .i64), .val .bor (.int .i64), .val .bor (.int .i64), .val .bor (.bool), .fix (.nil)] :: ([.val .bor (.int .i64), .val .bor (.int .i64), .val .bor (.int .i64), .val .bor (.int .i64), .val .bor (.int .i64), .val .bor (.bool), .val .own (.slice R1)] :: (rk 94 []))))), [], [], [⟨some 1, (.cell (.fix (.ptr 0 0)) :: (sk 1 (.cell (.fix (.ptr 2 0)) :: (.cell (.fix (.ptr 3 0)) :: (sk 94 []))))), ([.val .imm (.slice (.int .u8)), .val .bor (.int .i64), .val .bor (.int .u64), .val .bor (.int .i64)] :: (rk 1 ([.val .bor (.int .i64), .val .bor (.int .i64), .val .bor (.int .i64), .val .bor (.int .i64), .val .bor (.int .i64), .val .bor (.bool), .fix (.nil)] :: ([.val .bor (.int .i64), .val .bor (.int .i64), .val .bor (.int .i64), .val .bor (.int .i64), .val .bor (.int .i64), .val .bor (.bool), .val .own (.slice R1)] :: (rk 94 []))))), [], []⟩], fun v => spec_l01Src_anyClock_v2_l22 K0 v.1 v.2.1 v.2.2.1 v.2.2.2.1 v.2.2.2.2.1 v.2.2.2.2.2.1 v.2.2.2.2.2.2.1 v.2.2.2.2.2.2.2.1 v.2.2.2.2.2.2.2.2.1 v.2.2.2.2.2.2.2.2.2.1 v.2.2.2.2.2.2.2.2.2.2.1 v.2.2.2.2.2.2.2.2.2.2.2.1 v.2.2.2.2.2.2.2.2.2.2.2.2.1 v.2.2.2.2.2.2.2.2.2.2.2.2.2.1 v.2.2.2.2.2.2.2.2.2.2.2.2.2.2.1 v.2.2.2.2.2.2.2.2.2.2.2.2.2.2.2.1 v.2.2.2.2.2.2.2.2.2.2.2.2.2.2.2.2.1 v.2.2.2.2.2.2.2.2.2.2.2.2.2.2.2.2.2.1⟩
theorem spec_l01Src_anyClock_v2_l22.eq : ∀ rec v, evStep spec_l01Src_anyClock_v2.E22 (bodyAt 22 f104) spec_l01Src_anyClock_v2_l22.ent.ins spec_l01Src_anyClock_v2_l22.ent.rts spec_l01Src_anyClock_v2_l22.ent.hm spec_l01Src_anyClock_v2_l22.ent.nl spec_l01Src_anyClock_v2_l22.ent.xs rec v = spec_l01Src_anyClock_v2_l22_step (fun c0 c1 c2 c3 c4 c5 c6 c7 c8 c9 c10 c11 c12 c13 c14 c15 c16 c17 => rec (c0, c1, c2, c3, c4, c5, c6, c7, c8, c9, c10, c11, c12, c13, c14, c15, c16, c17, ())) v.1 v.2.1 v.2.2.1 v.2.2.2.1 v.2.2.2.2.1 v.2.2.2.2.2.1 v.2.2.2.2.2.2.1 v.2.2.2.2.2.2.2.1 v.2.2.2.2.2.2.2.2.1 v.2.2.2.2.2.2.2.2.2.1 v.2.2.2.2.2.2.2.2.2.2.1 v.2.2.2.2.2.2.2.2.2.2.2.1 v.2.2.2.2.2.2.2.2.2.2.2.2.1 v.2.2.2.2.2.2.2.2.2.2.2.2.2.1 v.2.2.2.2.2.2.2.2.2.2.2.2.2.2.1 v.2.2.2.2.2.2.2.2.2.2.2.2.2.2.2.1 v.2.2.2.2.2.2.2.2.2.2.2.2.2.2.2.2.1 v.2.2.2.2.2.2.2.2.2.2.2.2.2.2.2.2.2.1 := by intro rec v; kernel_rfl
noncomputable def spec_l01Src_anyClock_v2.E : Env := ⟨D, [0], [(143, spec_l01Src_clock_v2.ent), (47, spec_l01Src_one_v2.ent), (46, spec_l01Src_n_v2.ent), (144, spec_l01Src_timer_v2.ent)], [(22, spec_l01Src_anyClock_v2_l22.ent)]⟩
noncomputable def spec_l01Src_anyClock_v2 (a0 : List Int) (a1 : Int) (a2 : Int) (a3 : Int) : Option (Int × Int × Int × Int × Int × Bool × List V1 × List Int × Int × Int × Int × Unit) :=
 (spec_l01Src_clock_v2 a0 a1 a2 a3).bind fun r1 =>
 (spec_l01Src_one_v2 r1.2.2.2.2.2.2.2.1 r1.2.2.2.2.2.2.2.2.1 r1.2.2.2.2.2.2.2.2.2.1 r1.2.2.2.2.2.2.2.2.2.2.1 5).bind fun r2 =>
 bif !r2.1 then
  some (r1.1, r1.2.1, r1.2.2.1, r1.2.2.2.1, r1.2.2.2.2.1, r1.2.2.2.2.2.1, r1.2.2.2.2.2.2.1, r2.2.1, r2.2.2.1, r2.2.2.2.1, r2.2.2.2.2.1, ())
 else
  (spec_l01Src_n_v2 r2.2.1 r2.2.2.1 r2.2.2.2.1 r2.2.2.2.2.1 8).bind fun r3 =>
  bif (r3.1 == 0) then
   let l4 : List Int := ([-1, 1099511627776, 1099511627777] : List Int)
   (spec_l01Src_n_v2 r3.2.1 r3.2.2.1 r3.2.2.2.1 r3.2.2.2.2.1 3).bind fun r5 =>
   bif decide (0 ≤ r5.1) && decide (r5.1 < (l4.length : Int)) then
    some ((rd (.int .i64) l4 r5.1), r1.2.1, r1.2.2.1, r1.2.2.2.1, r1.2.2.2.2.1, r1.2.2.2.2.2.1, r1.2.2.2.2.2.2.1, r5.2.1, r5.2.2.1, r5.2.2.2.1, r5.2.2.2.2.1, ())
   else none
  else
  bif (r3.1 == 1) then
   let l6 : List Int := ([-1, 1099511627776, 1099511627777] : List Int)
   (spec_l01Src_n_v2 r3.2.1 r3.2.2.1 r3.2.2.2.1 r3.2.2.2.2.1 3).bind fun r7 =>
   bif decide (0 ≤ r7.1) && decide (r7.1 < (l6.length : Int)) then
    some (r1.1, (rd (.int .i64) l6 r7.1), r1.2.2.1, r1.2.2.2.1, r1.2.2.2.2.1, r1.2.2.2.2.2.1, r1.2.2.2.2.2.2.1, r7.2.1, r7.2.2.1, r7.2.2.2.1, r7.2.2.2.2.1, ())
   else none
  else
  bif (r3.1 == 2) then
   let l8 : List Int := ([-1, 1000, 1001] : List Int)
   (spec_l01Src_n_v2 r3.2.1 r3.2.2.1 r3.2.2.2.1 r3.2.2.2.2.1 3).bind fun r9 =>
   bif decide (0 ≤ r9.1) && decide (r9.1 < (l8.length : Int)) then
    some (r1.1, r1.2.1, (rd (.int .i64) l8 r9.1), r1.2.2.2.1, r1.2.2.2.2.1, r1.2.2.2.2.2.1, r1.2.2.2.2.2.2.1, r9.2.1, r9.2.2.1, r9.2.2.2.1, r9.2.2.2.2.1, ())
   else none
  else
  bif (r3.1 == 3) then
   let l10 : List Int := ([0, 1000, 1001] : List Int)
   (spec_l01Src_n_v2 r3.2.1 r3.2.2.1 r3.2.2.2.1 r3.2.2.2.2.1 3).bind fun r11 =>
   let x12 : Int := (rd (.int .i64) l10 r11.1)
   bif decide (0 ≤ r11.1) && decide (r11.1 < (l10.length : Int)) then
    some (r1.1, r1.2.1, r1.2.2.1, x12, r1.2.2.2.2.1, r1.2.2.2.2.2.1, r1.2.2.2.2.2.2.1, r11.2.1, r11.2.2.1, r11.2.2.2.1, r11.2.2.2.2.1, ())
   else none
  else
  bif (r3.1 == 4) then
   some (r1.1, r1.2.1, r1.2.2.1, r1.2.2.2.1, r1.2.2.2.1, r1.2.2.2.2.2.1, r1.2.2.2.2.2.2.1, r3.2.1, r3.2.2.1, r3.2.2.2.1, r3.2.2.2.2.1, ())
  else
  bif (r3.1 == 5) then
   let l13 : List Int := ([-1, 2199023255552, 2199023255553] : List Int)
   (spec_l01Src_n_v2 r3.2.1 r3.2.2.1 r3.2.2.2.1 r3.2.2.2.2.1 3).bind fun r14 =>
   (spec_l01Src_n_v2 r14.2.1 r14.2.2.1 r14.2.2.2.1 r14.2.2.2.2.1 4).bind fun r15 =>
   let x16 : Int := (wrap64 ((1 : Int) + r15.1))
   let l17 : List V1 := [((rd (.int .i64) l13 r14.1), 0, x16)]
   let l18 : List V1 := (r1.2.2.2.2.2.2.1 ++ l17)
   bif (decide (0 ≤ r14.1) && decide (r14.1 < (l13.length : Int))) && (roomy ((r1.2.2.2.2.2.2.1.length : Int) + (l17.length : Int)) 24) then
    some (r1.1, r1.2.1, r1.2.2.1, r1.2.2.2.1, r1.2.2.2.2.1, r1.2.2.2.2.2.1, l18, r15.2.1, r15.2.2.1, r15.2.2.2.1, r15.2.2.2.2.1, ())
   else none
  else
  bif (r3.1 == 6) then
   let l19 : List Int := ([-1, 1099511627776, 1099511627777] : List Int)
   (spec_l01Src_n_v2 r3.2.1 r3.2.2.1 r3.2.2.2.1 r3.2.2.2.2.1 3).bind fun r20 =>
   let l21 : List V1 := [(0, (rd (.int .i64) l19 r20.1), 1)]
   let l22 : List V1 := (r1.2.2.2.2.2.2.1 ++ l21)
   bif (decide (0 ≤ r20.1) && decide (r20.1 < (l19.length : Int))) && (roomy ((r1.2.2.2.2.2.2.1.length : Int) + (l21.length : Int)) 24) then
    some (r1.1, r1.2.1, r1.2.2.1, r1.2.2.2.1, r1.2.2.2.2.1, r1.2.2.2.2.2.1, l22, r20.2.1, r20.2.2.1, r20.2.2.2.1, r20.2.2.2.2.1, ())
   else none
  else
  bif (r3.1 == 7) then
   (spec_l01Src_n_v2 r3.2.1 r3.2.2.1 r3.2.2.2.1 r3.2.2.2.2.1 3).bind fun r23 =>
   let x24 : Int := (wrap64 ((19 : Int) + r23.1))
   (spec_l01Src_anyClock_v2_l22 K0 x24 r23.2.1 r23.2.2.1 r23.2.2.2.1 r23.2.2.2.2.1 0 0 0 0 0 false r1.1 r1.2.1 r1.2.2.1 r1.2.2.2.1 r1.2.2.2.2.1 r1.2.2.2.2.2.1 []).bind fun o27 =>
   let x28 : Int := o27.2.2.2.2.2.2.2.2.2.2.1
   let x29 : Int := o27.2.2.2.2.2.2.2.2.2.2.2.1
   let x30 : Int := o27.2.2.2.2.2.2.2.2.2.2.2.2.1
   let x31 : Int := o27.2.2.2.2.2.2.2.2.2.2.2.2.2.1
   let x32 : Int := o27.2.2.2.2.2.2.2.2.2.2.2.2.2.2.1
   let b33 : Bool := o27.2.2.2.2.2.2.2.2.2.2.2.2.2.2.2.1
   let l34 : List V1 := o27.2.2.2.2.2.2.2.2.2.2.2.2.2.2.2.2.1
   some (x28, x29, x30, x31, x32, b33, l34, o27.1, o27.2.1, o27.2.2.1, o27.2.2.2.1, ())
  else
   some (r1.1, r1.2.1, r1.2.2.1, r1.2.2.2.1, r1.2.2.2.2.1, r1.2.2.2.2.2.1, r1.2.2.2.2.2.2.1, r3.2.1, r3.2.2.1, r3.2.2.2.1, r3.2.2.2.2.1, ())
noncomputable def spec_l01Src_anyClock_v2.ent : Entry := ⟨[true], [.agg [.val .imm (.slice (.int .u8)), .val .bor (.int .i64), .val .bor (.int .u64), .val .bor (.int .i64)]], [.agg [.val .bor (.int .i64), .val .bor (.int .i64), .val .bor (.int .i64), .val .bor (.int .i64), .val .bor (.int .i64), .val .bor (.bool), .val .own (.slice R1)]], [.agg [.val .imm (.slice (.int .u8)), .val .bor (.int .i64), .val .bor (.int .u64), .val .bor (.int .i64)]], fun v => spec_l01Src_anyClock_v2 v.1 v.2.1 v.2.2.1 v.2.2.2.1⟩
theorem spec_l01Src_anyClock_v2.eq : ∀ v, evFn spec_l01Src_anyClock_v2.E f104 spec_l01Src_anyClock_v2.ent.ptrs spec_l01Src_anyClock_v2.ent.ins spec_l01Src_anyClock_v2.ent.rets spec_l01Src_anyClock_v2.ent.outs v = spec_l01Src_anyClock_v2.ent.f v := by intro v; kernel_rfl
theorem spec_l01Src_anyClock_v2.fok : ∀ q ∈ [((143 : Nat), spec_l01Src_clock_v2.ent), ((47 : Nat), spec_l01Src_one_v2.ent), ((46 : Nat), spec_l01Src_n_v2.ent), ((144 : Nat), spec_l01Src_timer_v2.ent)], EntryOK Pr q.1 q.2 := by
 intro q hq
 simp only [List.mem_cons, List.mem_nil_iff, or_false] at hq
 rcases hq with rfl | rfl | rfl | rfl
 · exact spec_l01Src_clock_v2.ok
 · exact spec_l01Src_one_v2.ok
 · exact spec_l01Src_n_v2.ok
 · exact spec_l01Src_timer_v2.ok
theorem spec_l01Src_anyClock_v2_l22.it : ∀ n v, iter (evStep spec_l01Src_anyClock_v2.E22 (bodyAt 22 f104) spec_l01Src_anyClock_v2_l22.ent.ins spec_l01Src_anyClock_v2_l22.ent.rts spec_l01Src_anyClock_v2_l22.ent.hm spec_l01Src_anyClock_v2_l22.ent.nl spec_l01Src_anyClock_v2_l22.ent.xs) n v = spec_l01Src_anyClock_v2_l22 n v.1 v.2.1 v.2.2.1 v.2.2.2.1 v.2.2.2.2.1 v.2.2.2.2.2.1 v.2.2.2.2.2.2.1 v.2.2.2.2.2.2.2.1 v.2.2.2.2.2.2.2.2.1 v.2.2.2.2.2.2.2.2.2.1 v.2.2.2.2.2.2.2.2.2.2.1 v.2.2.2.2.2.2.2.2.2.2.2.1 v.2.2.2.2.2.2.2.2.2.2.2.2.1 v.2.2.2.2.2.2.2.2.2.2.2.2.2.1 v.2.2.2.2.2.2.2.2.2.2.2.2.2.2.1 v.2.2.2.2.2.2.2.2.2.2.2.2.2.2.2.1 v.2.2.2.2.2.2.2.2.2.2.2.2.2.2.2.2.1 v.2.2.2.2.2.2.2.2.2.2.2.2.2.2.2.2.2.1 := by
 intro n
 induction n with
 | zero => intro v; rfl
 | succ n ih =>
  intro v
  show (evStep spec_l01Src_anyClock_v2.E22 (bodyAt 22 f104) spec_l01Src_anyClock_v2_l22.ent.ins spec_l01Src_anyClock_v2_l22.ent.rts spec_l01Src_anyClock_v2_l22.ent.hm spec_l01Src_anyClock_v2_l22.ent.nl spec_l01Src_anyClock_v2_l22.ent.xs) (iter (evStep spec_l01Src_anyClock_v2.E22 (bodyAt 22 f104) spec_l01Src_anyClock_v2_l22.ent.ins spec_l01Src_anyClock_v2_l22.ent.rts spec_l01Src_anyClock_v2_l22.ent.hm spec_l01Src_anyClock_v2_l22.ent.nl spec_l01Src_anyClock_v2_l22.ent.xs) n) v = _
  rw [spec_l01Src_anyClock_v2_l22.eq, show (fun c0 c1 c2 c3 c4 c5 c6 c7 c8 c9 c10 c11 c12 c13 c14 c15 c16 c17 => iter (evStep spec_l01Src_anyClock_v2.E22 (bodyAt 22 f104) spec_l01Src_anyClock_v2_l22.ent.ins spec_l01Src_anyClock_v2_l22.ent.rts spec_l01Src_anyClock_v2_l22.ent.hm spec_l01Src_anyClock_v2_l22.ent.nl spec_l01Src_anyClock_v2_l22.ent.xs) n (c0, c1, c2, c3, c4, c5, c6, c7, c8, c9, c10, c11, c12, c13, c14, c15, c16, c17, ())) = spec_l01Src_anyClock_v2_l22 n from by funext c0 c1 c2 c3 c4 c5 c6 c7 c8 c9 c10 c11 c12 c13 c14 c15 c16 c17; exact ih _]
  rfl
theorem spec_l01Src_anyClock_v2_l22.fr : firstRegion (bodyAt 22 f104) = 22 := by kernel_rfl
theorem spec_l01Src_anyClock_v2_l22.ls : loopsOf (bodyAt 22 f104) = [] := by kernel_rfl
theorem spec_l01Src_anyClock_v2_l22.lok {E : Env} (hpin : spec_l01Src_anyClock_v2.E22.pin = E.pin) (hfind : find 22 E.loops = some spec_l01Src_anyClock_v2_l22.ent) : LoopOK Pr E (bodyAt 22 f104) :=
 loop_of (E1 := spec_l01Src_anyClock_v2.E22) (EnvOK.of dok spec_l01Src_anyClock_v2.fok) mixed hpin (by rw [spec_l01Src_anyClock_v2_l22.fr]; exact hfind) spec_l01Src_anyClock_v2_l22.ls (by intro l hl; simp at hl) (fun v => (spec_l01Src_anyClock_v2_l22.it K0 v).symm)
theorem spec_l01Src_anyClock_v2.ls : loopsOf (bodyOf f104) = [bodyAt 22 f104] := by kernel_rfl
theorem spec_l01Src_anyClock_v2.ok : EntryOK Pr 104 spec_l01Src_anyClock_v2.ent :=
 entry_ok (E := spec_l01Src_anyClock_v2.E) (EnvOK.of dok spec_l01Src_anyClock_v2.fok) mixed (fn := f104) (by kernel_rfl) (by kernel_rfl) (by decide) spec_l01Src_anyClock_v2.ls (by intro l hl; simp only [List.mem_singleton] at hl; subst hl; exact spec_l01Src_anyClock_v2_l22.lok rfl rfl) spec_l01Src_anyClock_v2.eq
/-! ### loop.example/g00038/spec.DrawClockFault -/
noncomputable def spec_DrawClockFault_v3.E : Env := ⟨D, [], [(43, spec_l01Source_v3.ent), (104, spec_l01Src_anyClock_v2.ent)], []⟩
noncomputable def spec_DrawClockFault_v3 (a0 : List Int) : Option (Int × Int × Int × Int × Int × Bool × List V1 × Unit) :=
 (spec_l01Source_v3 a0).bind fun r1 =>
 (spec_l01Src_anyClock_v2 r1.1 r1.2.1 r1.2.2.1 r1.2.2.2.1).bind fun r2 =>
 some (r2.1, r2.2.1, r2.2.2.1, r2.2.2.2.1, r2.2.2.2.2.1, r2.2.2.2.2.2.1, r2.2.2.2.2.2.2.1, ())
noncomputable def spec_DrawClockFault_v3.ent : Entry := ⟨[false], [.cell (.val .imm (.slice (.int .u8)))], [.agg [.val .bor (.int .i64), .val .bor (.int .i64), .val .bor (.int .i64), .val .bor (.int .i64), .val .bor (.int .i64), .val .bor (.bool), .val .own (.slice R1)]], [], fun v => spec_DrawClockFault_v3 v.1⟩
theorem spec_DrawClockFault_v3.eq : ∀ v, evFn spec_DrawClockFault_v3.E f38 spec_DrawClockFault_v3.ent.ptrs spec_DrawClockFault_v3.ent.ins spec_DrawClockFault_v3.ent.rets spec_DrawClockFault_v3.ent.outs v = spec_DrawClockFault_v3.ent.f v := by intro v; kernel_rfl
theorem spec_DrawClockFault_v3.fok : ∀ q ∈ [((43 : Nat), spec_l01Source_v3.ent), ((104 : Nat), spec_l01Src_anyClock_v2.ent)], EntryOK Pr q.1 q.2 := by
 intro q hq
 simp only [List.mem_cons, List.mem_nil_iff, or_false] at hq
 rcases hq with rfl | rfl
 · exact spec_l01Source_v3.ok
 · exact spec_l01Src_anyClock_v2.ok
theorem spec_DrawClockFault_v3.ls : loopsOf (bodyOf f38) = [] := by kernel_rfl
theorem spec_DrawClockFault_v3.ok : EntryOK Pr 38 spec_DrawClockFault_v3.ent :=
 entry_ok (E := spec_DrawClockFault_v3.E) (EnvOK.of dok spec_DrawClockFault_v3.fok) mixed (fn := f38) (by kernel_rfl) (by kernel_rfl) (by decide) spec_DrawClockFault_v3.ls (by intro l hl; simp at hl) spec_DrawClockFault_v3.eq
/-! ### loop.example/g00038/spec.l09Rate -/
noncomputable def spec_l09Rate.E : Env := ⟨D, [], [], []⟩
noncomputable def spec_l09Rate (a0 : Int) (a1 : Int) : Option (Bool × Unit) :=
 let b1 : Bool := (decide (a0 ≥ 0) && decide (a0 ≤ 1000))
 let b2 : Bool := ((b1 && decide (a1 ≥ 1)) && decide (a1 ≤ 1000))
 some (b2, ())
noncomputable def spec_l09Rate.ent : Entry := ⟨[false, false], [.cell (.val .bor (.int .i64)), .cell (.val .bor (.int .i64))], [.cell (.val .bor (.bool))], [], fun v => spec_l09Rate v.1 v.2.1⟩
theorem spec_l09Rate.eq : ∀ v, evFn spec_l09Rate.E f105 spec_l09Rate.ent.ptrs spec_l09Rate.ent.ins spec_l09Rate.ent.rets spec_l09Rate.ent.outs v = spec_l09Rate.ent.f v := by intro v; kernel_rfl
theorem spec_l09Rate.fok : ∀ q ∈ ([] : List (Nat × Entry)), EntryOK Pr q.1 q.2 := by intro q hq; simp at hq
theorem spec_l09Rate.ls : loopsOf (bodyOf f105) = [] := by kernel_rfl
theorem spec_l09Rate.ok : EntryOK Pr 105 spec_l09Rate.ent :=
 entry_ok (E := spec_l09Rate.E) (EnvOK.of dok spec_l09Rate.fok) mixed (fn := f105) (by kernel_rfl) (by kernel_rfl) (by decide) spec_l09Rate.ls (by intro l hl; simp at hl) spec_l09Rate.eq
/-! ### loop.example/g00038/spec.l09Timer -/
noncomputable def spec_l09Timer.E : Env := ⟨D, [], [], []⟩
noncomputable def spec_l09Timer (a0 : Int) (a1 : Int) (a2 : Int) : Option (Bool × Unit) :=
 let b1 : Bool := decide (a0 ≤ 2199023255552)
 let b2 : Bool := ((decide (a0 ≥ 0) && b1) && decide (a1 ≥ 0))
 let b3 : Bool := decide (a1 ≤ 1099511627776)
 let b4 : Bool := ((b2 && b3) && decide (a2 ≥ 1))
 some ((b4 && decide (a2 ≤ 3)), ())
noncomputable def spec_l09Timer.ent : Entry := ⟨[false], [.agg [.val .bor (.int .i64), .val .bor (.int .i64), .val .bor (.int .i64)]], [.cell (.val .bor (.bool))], [], fun v => spec_l09Timer v.1 v.2.1 v.2.2.1⟩
theorem spec_l09Timer.eq : ∀ v, evFn spec_l09Timer.E f106 spec_l09Timer.ent.ptrs spec_l09Timer.ent.ins spec_l09Timer.ent.rets spec_l09Timer.ent.outs v = spec_l09Timer.ent.f v := by intro v; kernel_rfl
theorem spec_l09Timer.fok : ∀ q ∈ ([] : List (Nat × Entry)), EntryOK Pr q.1 q.2 := by intro q hq; simp at hq
theorem spec_l09Timer.ls : loopsOf (bodyOf f106) = [] := by kernel_rfl
theorem spec_l09Timer.ok : EntryOK Pr 106 spec_l09Timer.ent :=
 entry_ok (E := spec_l09Timer.E) (EnvOK.of dok spec_l09Timer.fok) mixed (fn := f106) (by kernel_rfl) (by kernel_rfl) (by decide) spec_l09Timer.ls (by intro l hl; simp at hl) spec_l09Timer.eq
/-! ### loop.example/g00038/spec.ClockFault -/
noncomputable def spec_ClockFault.E4 : Env := ⟨D, [], [(105, spec_l09Rate.ent), (106, spec_l09Timer.ent)], []⟩
noncomputable def spec_ClockFault_l4_step (rec : Int → Int → Int → Int → Int → Int → Bool → List V1 → Option ((Int × Unit) ⊕ (Unit))) (y0 : Int) (y1 : Int) (y2 : Int) (y3 : Int) (y4 : Int) (y5 : Int) (y6 : Bool) (y7 : List V1) : Option ((Int × Unit) ⊕ (Unit)) :=
 let b8 : Bool := decide (y0 < (y7.length : Int))
 bif b8 then
  let e9 : V1 := rd R1 y7 y0
  (spec_l09Timer e9.1 e9.2.1 e9.2.2).bind fun r10 =>
  bif decide (0 ≤ y0) && decide (y0 < (y7.length : Int)) then
   bif !r10.1 then
    some (Sum.inl (1, ()))
   else
    rec (wrap64 (y0 + 1)) y1 y2 y3 y4 y5 y6 y7
  else none
 else
  some (Sum.inr ())
noncomputable def spec_ClockFault_l4 : Nat → Int → Int → Int → Int → Int → Int → Bool → List V1 → Option ((Int × Unit) ⊕ (Unit))
 | 0 => fun _ _ _ _ _ _ _ _ => none
 | n + 1 => spec_ClockFault_l4_step (spec_ClockFault_l4 n)
noncomputable def spec_ClockFault_l4.ent : LEntry := ⟨sk 1 (.cell (.fix (.ptr 1 0)) :: (sk 1 (.cell (.val .bor (.int .i64)) :: (sk 58 [])))), rk 1 ([.val .bor (.int .i64), .val .bor (.int .i64), .val .bor (.int .i64), .val .bor (.int .i64), .val .bor (.int .i64), .val .bor (.bool), .val .bor (.slice R1)] :: (rk 60 [])), [], [], [⟨none, sk 2 (.cell (.val .bor (.int .i64)) :: (sk 59 [])), rk 62 [], [], []⟩, ⟨some 0, sk 62 [], rk 62 [], [], []⟩], fun v => spec_ClockFault_l4 K0 v.1 v.2.1 v.2.2.1 v.2.2.2.1 v.2.2.2.2.1 v.2.2.2.2.2.1 v.2.2.2.2.2.2.1 v.2.2.2.2.2.2.2.1⟩
theorem spec_ClockFault_l4.eq : ∀ rec v, evStep spec_ClockFault.E4 (bodyAt 4 f39) spec_ClockFault_l4.ent.ins spec_ClockFault_l4.ent.rts spec_ClockFault_l4.ent.hm spec_ClockFault_l4.ent.nl spec_ClockFault_l4.ent.xs rec v = spec_ClockFault_l4_step (fun c0 c1 c2 c3 c4 c5 c6 c7 => rec (c0, c1, c2, c3, c4, c5, c6, c7, ())) v.1 v.2.1 v.2.2.1 v.2.2.2.1 v.2.2.2.2.1 v.2.2.2.2.2.1 v.2.2.2.2.2.2.1 v.2.2.2.2.2.2.2.1 := by intro rec v; kernel_rfl
noncomputable def spec_ClockFault.E : Env := ⟨D, [], [(105, spec_l09Rate.ent), (106, spec_l09Timer.ent)], [(4, spec_ClockFault_l4.ent)]⟩
noncomputable def spec_ClockFault (a0 : Int) (a1 : Int) (a2 : Int) (a3 : Int) (a4 : Int) (a5 : Bool) (a6 : List V1) : Option (Int × Unit) :=
 let b1 : Bool := decide (a0 > 1099511627776)
 let b2 : Bool := ((decide (a0 < 0) || b1) || decide (a1 < 0))
 let b3 : Bool := decide (a1 > 1099511627776)
 let r4 : Bool × Unit := (spec_l09Rate a2 a3).getD (false, ())
 let b5 : Bool := (((b2 || b3) || !r4.1) || decide (a4 < 0))
 let b6 : Bool := decide ((a6.length : Int) > 20)
 let b7 : Bool := ((b5 || decide (a4 ≥ a3)) || b6)
 bif (!(!(b2 || b3)) || ((spec_l09Rate a2 a3).isSome)) then
  bif b7 then
   some (1, ())
  else
   (spec_ClockFault_l4 K0 0 a0 a1 a2 a3 a4 a5 a6).bind fun o11 =>
   match o11 with
   | Sum.inl p12 =>
    some (p12.1, ())
   | Sum.inr p13 =>
    some (0, ())
 else none
noncomputable def spec_ClockFault.ent : Entry := ⟨[false], [.agg [.val .bor (.int .i64), .val .bor (.int .i64), .val .bor (.int .i64), .val .bor (.int .i64), .val .bor (.int .i64), .val .bor (.bool), .val .bor (.slice R1)]], [.cell (.val .bor (.int .i64))], [], fun v => spec_ClockFault v.1 v.2.1 v.2.2.1 v.2.2.2.1 v.2.2.2.2.1 v.2.2.2.2.2.1 v.2.2.2.2.2.2.1⟩
theorem spec_ClockFault.eq : ∀ v, evFn spec_ClockFault.E f39 spec_ClockFault.ent.ptrs spec_ClockFault.ent.ins spec_ClockFault.ent.rets spec_ClockFault.ent.outs v = spec_ClockFault.ent.f v := by intro v; kernel_rfl
theorem spec_ClockFault.fok : ∀ q ∈ [((105 : Nat), spec_l09Rate.ent), ((106 : Nat), spec_l09Timer.ent)], EntryOK Pr q.1 q.2 := by
 intro q hq
 simp only [List.mem_cons, List.mem_nil_iff, or_false] at hq
 rcases hq with rfl | rfl
 · exact spec_l09Rate.ok
 · exact spec_l09Timer.ok
theorem spec_ClockFault_l4.it : ∀ n v, iter (evStep spec_ClockFault.E4 (bodyAt 4 f39) spec_ClockFault_l4.ent.ins spec_ClockFault_l4.ent.rts spec_ClockFault_l4.ent.hm spec_ClockFault_l4.ent.nl spec_ClockFault_l4.ent.xs) n v = spec_ClockFault_l4 n v.1 v.2.1 v.2.2.1 v.2.2.2.1 v.2.2.2.2.1 v.2.2.2.2.2.1 v.2.2.2.2.2.2.1 v.2.2.2.2.2.2.2.1 := by
 intro n
 induction n with
 | zero => intro v; rfl
 | succ n ih =>
  intro v
  show (evStep spec_ClockFault.E4 (bodyAt 4 f39) spec_ClockFault_l4.ent.ins spec_ClockFault_l4.ent.rts spec_ClockFault_l4.ent.hm spec_ClockFault_l4.ent.nl spec_ClockFault_l4.ent.xs) (iter (evStep spec_ClockFault.E4 (bodyAt 4 f39) spec_ClockFault_l4.ent.ins spec_ClockFault_l4.ent.rts spec_ClockFault_l4.ent.hm spec_ClockFault_l4.ent.nl spec_ClockFault_l4.ent.xs) n) v = _
  rw [spec_ClockFault_l4.eq, show (fun c0 c1 c2 c3 c4 c5 c6 c7 => iter (evStep spec_ClockFault.E4 (bodyAt 4 f39) spec_ClockFault_l4.ent.ins spec_ClockFault_l4.ent.rts spec_ClockFault_l4.ent.hm spec_ClockFault_l4.ent.nl spec_ClockFault_l4.ent.xs) n (c0, c1, c2, c3, c4, c5, c6, c7, ())) = spec_ClockFault_l4 n from by funext c0 c1 c2 c3 c4 c5 c6 c7; exact ih _]
  rfl
theorem spec_ClockFault_l4.fr : firstRegion (bodyAt 4 f39) = 4 := by kernel_rfl
theorem spec_ClockFault_l4.ls : loopsOf (bodyAt 4 f39) = [] := by kernel_rfl
theorem spec_ClockFault_l4.lok {E : Env} (hpin : spec_ClockFault.E4.pin = E.pin) (hfind : find 4 E.loops = some spec_ClockFault_l4.ent) : LoopOK Pr E (bodyAt 4 f39) :=
 loop_of (E1 := spec_ClockFault.E4) (EnvOK.of dok spec_ClockFault.fok) mixed hpin (by rw [spec_ClockFault_l4.fr]; exact hfind) spec_ClockFault_l4.ls (by intro l hl; simp at hl) (fun v => (spec_ClockFault_l4.it K0 v).symm)
theorem spec_ClockFault.ls : loopsOf (bodyOf f39) = [bodyAt 4 f39] := by kernel_rfl
theorem spec_ClockFault.ok : EntryOK Pr 39 spec_ClockFault.ent :=
 entry_ok (E := spec_ClockFault.E) (EnvOK.of dok spec_ClockFault.fok) mixed (fn := f39) (by kernel_rfl) (by kernel_rfl) (by decide) spec_ClockFault.ls (by intro l hl; simp only [List.mem_singleton] at hl; subst hl; exact spec_ClockFault_l4.lok rfl rfl) spec_ClockFault.eq
/-! ### loop.example/g00038/laws.lwAt -/
noncomputable def laws_lwAt.E : Env := ⟨D, [], [], []⟩
noncomputable def laws_lwAt (a0 : List Int) (a1 : Int) (a2 : Int) : Option (Int × Unit) :=
 bif ((a0.length : Int) == 0) then
  some (0, ())
 else
  let x1 : Int := (Int.tmod a1 (a0.length : Int))
  let x2 : Int := (wrap64 ((rd (.int .u8) a0 x1)))
  bif (!((a0.length : Int) == 0)) && ((decide (0 ≤ x1) && decide (x1 < (a0.length : Int))) && (!(a2 == 0))) then
   some ((Int.tmod x2 a2), ())
  else none
noncomputable def laws_lwAt.ent : Entry := ⟨[false, false, false], [.cell (.val .bor (.slice (.int .u8))), .cell (.val .bor (.int .i64)), .cell (.val .bor (.int .i64))], [.cell (.val .bor (.int .i64))], [], fun v => laws_lwAt v.1 v.2.1 v.2.2.1⟩
theorem laws_lwAt.eq : ∀ v, evFn laws_lwAt.E f40 laws_lwAt.ent.ptrs laws_lwAt.ent.ins laws_lwAt.ent.rets laws_lwAt.ent.outs v = laws_lwAt.ent.f v := by intro v; kernel_rfl
theorem laws_lwAt.fok : ∀ q ∈ ([] : List (Nat × Entry)), EntryOK Pr q.1 q.2 := by intro q hq; simp at hq
theorem laws_lwAt.ls : loopsOf (bodyOf f40) = [] := by kernel_rfl
theorem laws_lwAt.ok : EntryOK Pr 40 laws_lwAt.ent :=
 entry_ok (E := laws_lwAt.E) (EnvOK.of dok laws_lwAt.fok) mixed (fn := f40) (by kernel_rfl) (by kernel_rfl) (by decide) laws_lwAt.ls (by intro l hl; simp at hl) laws_lwAt.eq
/-! ### loop.example/g00038/impl.yin -/
noncomputable def impl_yin.E : Env := ⟨D, [], [], []⟩
noncomputable def impl_yin (a0 : Int) (a1 : Int) (a2 : Int) : Option (Bool × Unit) :=
 let b1 : Bool := (decide (a0 ≥ a1) && decide (a0 ≤ a2))
 some (b1, ())
noncomputable def impl_yin.ent : Entry := ⟨[false, false, false], [.cell (.val .bor (.int .i64)), .cell (.val .bor (.int .i64)), .cell (.val .bor (.int .i64))], [.cell (.val .bor (.bool))], [], fun v => impl_yin v.1 v.2.1 v.2.2.1⟩
theorem impl_yin.eq : ∀ v, evFn impl_yin.E f54 impl_yin.ent.ptrs impl_yin.ent.ins impl_yin.ent.rets impl_yin.ent.outs v = impl_yin.ent.f v := by intro v; kernel_rfl
theorem impl_yin.fok : ∀ q ∈ ([] : List (Nat × Entry)), EntryOK Pr q.1 q.2 := by intro q hq; simp at hq
theorem impl_yin.ls : loopsOf (bodyOf f54) = [] := by kernel_rfl
theorem impl_yin.ok : EntryOK Pr 54 impl_yin.ent :=
 entry_ok (E := impl_yin.E) (EnvOK.of dok impl_yin.fok) mixed (fn := f54) (by kernel_rfl) (by kernel_rfl) (by decide) impl_yin.ls (by intro l hl; simp at hl) impl_yin.eq
/-! ### loop.example/g00038/impl.yrateOk -/
noncomputable def impl_yrateOk.E : Env := ⟨D, [], [(54, impl_yin.ent)], []⟩
noncomputable def impl_yrateOk (a0 : Int) (a1 : Int) : Option (Bool × Unit) :=
 (impl_yin a0 0 1000).bind fun r1 =>
 let r2 : Bool × Unit := (impl_yin a1 1 1000).getD (false, ())
 bif (!r1.1 || ((impl_yin a1 1 1000).isSome)) then
  some ((r1.1 && r2.1), ())
 else none
noncomputable def impl_yrateOk.ent : Entry := ⟨[false, false], [.cell (.val .bor (.int .i64)), .cell (.val .bor (.int .i64))], [.cell (.val .bor (.bool))], [], fun v => impl_yrateOk v.1 v.2.1⟩
theorem impl_yrateOk.eq : ∀ v, evFn impl_yrateOk.E f132 impl_yrateOk.ent.ptrs impl_yrateOk.ent.ins impl_yrateOk.ent.rets impl_yrateOk.ent.outs v = impl_yrateOk.ent.f v := by intro v; kernel_rfl
theorem impl_yrateOk.fok : ∀ q ∈ [((54 : Nat), impl_yin.ent)], EntryOK Pr q.1 q.2 := by
 intro q hq
 simp only [List.mem_cons, List.mem_nil_iff, or_false] at hq
 rcases hq with rfl
 · exact impl_yin.ok
theorem impl_yrateOk.ls : loopsOf (bodyOf f132) = [] := by kernel_rfl
theorem impl_yrateOk.ok : EntryOK Pr 132 impl_yrateOk.ent :=
 entry_ok (E := impl_yrateOk.E) (EnvOK.of dok impl_yrateOk.fok) mixed (fn := f132) (by kernel_rfl) (by kernel_rfl) (by decide) impl_yrateOk.ls (by intro l hl; simp at hl) impl_yrateOk.eq
/-! ### loop.example/g00038/impl.ytimerOk -/
noncomputable def impl_ytimerOk.E : Env := ⟨D, [], [(54, impl_yin.ent)], []⟩
noncomputable def impl_ytimerOk (a0 : Int) (a1 : Int) (a2 : Int) : Option (Bool × Unit) :=
 (impl_yin a0 0 2199023255552).bind fun r1 =>
 let r2 : Bool × Unit := (impl_yin a1 0 1099511627776).getD (false, ())
 let r3 : Bool × Unit := (impl_yin a2 1 3).getD (false, ())
 bif (!r1.1 || ((impl_yin a1 0 1099511627776).isSome)) && (!(r1.1 && r2.1) || ((impl_yin a2 1 3).isSome)) then
  some (((r1.1 && r2.1) && r3.1), ())
 else none
noncomputable def impl_ytimerOk.ent : Entry := ⟨[false], [.agg [.val .bor (.int .i64), .val .bor (.int .i64), .val .bor (.int .i64)]], [.cell (.val .bor (.bool))], [], fun v => impl_ytimerOk v.1 v.2.1 v.2.2.1⟩
theorem impl_ytimerOk.eq : ∀ v, evFn impl_ytimerOk.E f135 impl_ytimerOk.ent.ptrs impl_ytimerOk.ent.ins impl_ytimerOk.ent.rets impl_ytimerOk.ent.outs v = impl_ytimerOk.ent.f v := by intro v; kernel_rfl
theorem impl_ytimerOk.fok : ∀ q ∈ [((54 : Nat), impl_yin.ent)], EntryOK Pr q.1 q.2 := by
 intro q hq
 simp only [List.mem_cons, List.mem_nil_iff, or_false] at hq
 rcases hq with rfl
 · exact impl_yin.ok
theorem impl_ytimerOk.ls : loopsOf (bodyOf f135) = [] := by kernel_rfl
theorem impl_ytimerOk.ok : EntryOK Pr 135 impl_ytimerOk.ent :=
 entry_ok (E := impl_ytimerOk.E) (EnvOK.of dok impl_ytimerOk.fok) mixed (fn := f135) (by kernel_rfl) (by kernel_rfl) (by decide) impl_ytimerOk.ls (by intro l hl; simp at hl) impl_ytimerOk.eq
/-! ### loop.example/g00038/impl.ClockFault$1 -/
noncomputable def impl_ClockFault_1.E : Env := ⟨D, [], [(135, impl_ytimerOk.ent)], []⟩
noncomputable def impl_ClockFault_1 (a0 : Int) (a1 : Int) (a2 : Int) : Option (Bool × Unit) :=
 (impl_ytimerOk a0 a1 a2).bind fun r1 =>
 some (!r1.1, ())
noncomputable def impl_ClockFault_1.ent : Entry := ⟨[false], [.agg [.val .bor (.int .i64), .val .bor (.int .i64), .val .bor (.int .i64)]], [.cell (.val .bor (.bool))], [], fun v => impl_ClockFault_1 v.1 v.2.1 v.2.2.1⟩
theorem impl_ClockFault_1.eq : ∀ v, evFn impl_ClockFault_1.E f134 impl_ClockFault_1.ent.ptrs impl_ClockFault_1.ent.ins impl_ClockFault_1.ent.rets impl_ClockFault_1.ent.outs v = impl_ClockFault_1.ent.f v := by intro v; kernel_rfl
theorem impl_ClockFault_1.fok : ∀ q ∈ [((135 : Nat), impl_ytimerOk.ent)], EntryOK Pr q.1 q.2 := by
 intro q hq
 simp only [List.mem_cons, List.mem_nil_iff, or_false] at hq
 rcases hq with rfl
 · exact impl_ytimerOk.ok
theorem impl_ClockFault_1.ls : loopsOf (bodyOf f134) = [] := by kernel_rfl
theorem impl_ClockFault_1.ok : EntryOK Pr 134 impl_ClockFault_1.ent :=
 entry_ok (E := impl_ClockFault_1.E) (EnvOK.of dok impl_ClockFault_1.fok) mixed (fn := f134) (by kernel_rfl) (by kernel_rfl) (by decide) impl_ClockFault_1.ls (by intro l hl; simp at hl) impl_ClockFault_1.eq
/-! ### slices.IndexFunc[[]loop.example/g00038/impl.Timer,loop.example/g00038/impl.Timer] -/
noncomputable def slices_IndexFunc_Timer.E2 : Env := ⟨D, [], [(134, impl_ClockFault_1.ent)], []⟩
noncomputable def slices_IndexFunc_Timer_l2_step (rec : List V1 → Int → Int → Option ((Int × Unit) ⊕ (Unit))) (y0 : List V1) (y1 : Int) (y2 : Int) : Option ((Int × Unit) ⊕ (Unit)) :=
 bif decide (y2 < y1) then
  let e1 : V1 := rd R1 y0 y2
  (impl_ClockFault_1 e1.1 e1.2.1 e1.2.2).bind fun r2 =>
  bif decide (0 ≤ y2) && decide (y2 < (y0.length : Int)) then
   bif r2.1 then
    some (Sum.inl (y2, ()))
   else
    rec y0 y1 (wrap64 (y2 + 1))
  else none
 else
  some (Sum.inr ())
noncomputable def slices_IndexFunc_Timer_l2 : Nat → List V1 → Int → Int → Option ((Int × Unit) ⊕ (Unit))
 | 0 => fun _ _ _ => none
 | n + 1 => slices_IndexFunc_Timer_l2_step (slices_IndexFunc_Timer_l2 n)
noncomputable def slices_IndexFunc_Timer_l2.ent : LEntry := ⟨(.cell (.val .bor (.slice R1)) :: (.cell (.fix (.clo 134 [])) :: (sk 5 (.cell (.val .bor (.int .i64)) :: (.cell (.val .bor (.int .i64)) :: (sk 10 [])))))), rk 19 [], [], [], [⟨none, sk 4 (.cell (.val .bor (.int .i64)) :: (sk 14 [])), rk 19 [], [], []⟩, ⟨some 0, sk 19 [], rk 19 [], [], []⟩], fun v => slices_IndexFunc_Timer_l2 K0 v.1 v.2.1 v.2.2.1⟩
theorem slices_IndexFunc_Timer_l2.eq : ∀ rec v, evStep slices_IndexFunc_Timer.E2 (bodyAt 2 f160) slices_IndexFunc_Timer_l2.ent.ins slices_IndexFunc_Timer_l2.ent.rts slices_IndexFunc_Timer_l2.ent.hm slices_IndexFunc_Timer_l2.ent.nl slices_IndexFunc_Timer_l2.ent.xs rec v = slices_IndexFunc_Timer_l2_step (fun c0 c1 c2 => rec (c0, c1, c2, ())) v.1 v.2.1 v.2.2.1 := by intro rec v; kernel_rfl
noncomputable def slices_IndexFunc_Timer.E : Env := ⟨D, [], [(134, impl_ClockFault_1.ent)], [(2, slices_IndexFunc_Timer_l2.ent)]⟩
noncomputable def slices_IndexFunc_Timer (a0 : List V1) : Option (Int × Unit) :=
 (slices_IndexFunc_Timer_l2 K0 a0 (a0.length : Int) 0).bind fun o3 =>
 match o3 with
 | Sum.inl p4 =>
  some (p4.1, ())
 | Sum.inr p5 =>
  some (-1, ())
noncomputable def slices_IndexFunc_Timer.ent : Entry := ⟨[false, false], [.cell (.val .bor (.slice R1)), .clo 134 []], [.cell (.val .bor (.int .i64))], [], fun v => slices_IndexFunc_Timer v.1⟩
theorem slices_IndexFunc_Timer.eq : ∀ v, evFn slices_IndexFunc_Timer.E f160 slices_IndexFunc_Timer.ent.ptrs slices_IndexFunc_Timer.ent.ins slices_IndexFunc_Timer.ent.rets slices_IndexFunc_Timer.ent.outs v = slices_IndexFunc_Timer.ent.f v := by intro v; kernel_rfl
theorem slices_IndexFunc_Timer.fok : ∀ q ∈ [((134 : Nat), impl_ClockFault_1.ent)], EntryOK Pr q.1 q.2 := by
 intro q hq
 simp only [List.mem_cons, List.mem_nil_iff, or_false] at hq
 rcases hq with rfl
 · exact impl_ClockFault_1.ok
theorem slices_IndexFunc_Timer_l2.it : ∀ n v, iter (evStep slices_IndexFunc_Timer.E2 (bodyAt 2 f160) slices_IndexFunc_Timer_l2.ent.ins slices_IndexFunc_Timer_l2.ent.rts slices_IndexFunc_Timer_l2.ent.hm slices_IndexFunc_Timer_l2.ent.nl slices_IndexFunc_Timer_l2.ent.xs) n v = slices_IndexFunc_Timer_l2 n v.1 v.2.1 v.2.2.1 := by
 intro n
 induction n with
 | zero => intro v; rfl
 | succ n ih =>
  intro v
  show (evStep slices_IndexFunc_Timer.E2 (bodyAt 2 f160) slices_IndexFunc_Timer_l2.ent.ins slices_IndexFunc_Timer_l2.ent.rts slices_IndexFunc_Timer_l2.ent.hm slices_IndexFunc_Timer_l2.ent.nl slices_IndexFunc_Timer_l2.ent.xs) (iter (evStep slices_IndexFunc_Timer.E2 (bodyAt 2 f160) slices_IndexFunc_Timer_l2.ent.ins slices_IndexFunc_Timer_l2.ent.rts slices_IndexFunc_Timer_l2.ent.hm slices_IndexFunc_Timer_l2.ent.nl slices_IndexFunc_Timer_l2.ent.xs) n) v = _
  rw [slices_IndexFunc_Timer_l2.eq, show (fun c0 c1 c2 => iter (evStep slices_IndexFunc_Timer.E2 (bodyAt 2 f160) slices_IndexFunc_Timer_l2.ent.ins slices_IndexFunc_Timer_l2.ent.rts slices_IndexFunc_Timer_l2.ent.hm slices_IndexFunc_Timer_l2.ent.nl slices_IndexFunc_Timer_l2.ent.xs) n (c0, c1, c2, ())) = slices_IndexFunc_Timer_l2 n from by funext c0 c1 c2; exact ih _]
  rfl
theorem slices_IndexFunc_Timer_l2.fr : firstRegion (bodyAt 2 f160) = 2 := by kernel_rfl
theorem slices_IndexFunc_Timer_l2.ls : loopsOf (bodyAt 2 f160) = [] := by kernel_rfl
theorem slices_IndexFunc_Timer_l2.lok {E : Env} (hpin : slices_IndexFunc_Timer.E2.pin = E.pin) (hfind : find 2 E.loops = some slices_IndexFunc_Timer_l2.ent) : LoopOK Pr E (bodyAt 2 f160) :=
 loop_of (E1 := slices_IndexFunc_Timer.E2) (EnvOK.of dok slices_IndexFunc_Timer.fok) mixed hpin (by rw [slices_IndexFunc_Timer_l2.fr]; exact hfind) slices_IndexFunc_Timer_l2.ls (by intro l hl; simp at hl) (fun v => (slices_IndexFunc_Timer_l2.it K0 v).symm)
theorem slices_IndexFunc_Timer.ls : loopsOf (bodyOf f160) = [bodyAt 2 f160] := by kernel_rfl
theorem slices_IndexFunc_Timer.ok : EntryOK Pr 160 slices_IndexFunc_Timer.ent :=
 entry_ok (E := slices_IndexFunc_Timer.E) (EnvOK.of dok slices_IndexFunc_Timer.fok) mixed (fn := f160) (by kernel_rfl) (by kernel_rfl) (by decide) slices_IndexFunc_Timer.ls (by intro l hl; simp only [List.mem_singleton] at hl; subst hl; exact slices_IndexFunc_Timer_l2.lok rfl rfl) slices_IndexFunc_Timer.eq
/-! ### slices.ContainsFunc[[]loop.example/g00038/impl.Timer,loop.example/g00038/impl.Timer] -/
noncomputable def slices_ContainsFunc_Timer.E : Env := ⟨D, [], [(160, slices_IndexFunc_Timer.ent)], []⟩
noncomputable def slices_ContainsFunc_Timer (a0 : List V1) : Option (Bool × Unit) :=
 (slices_IndexFunc_Timer a0).bind fun r1 =>
 some (decide (r1.1 ≥ 0), ())
noncomputable def slices_ContainsFunc_Timer.ent : Entry := ⟨[false, false], [.cell (.val .bor (.slice R1)), .clo 134 []], [.cell (.val .bor (.bool))], [], fun v => slices_ContainsFunc_Timer v.1⟩
theorem slices_ContainsFunc_Timer.eq : ∀ v, evFn slices_ContainsFunc_Timer.E f133 slices_ContainsFunc_Timer.ent.ptrs slices_ContainsFunc_Timer.ent.ins slices_ContainsFunc_Timer.ent.rets slices_ContainsFunc_Timer.ent.outs v = slices_ContainsFunc_Timer.ent.f v := by intro v; kernel_rfl
theorem slices_ContainsFunc_Timer.fok : ∀ q ∈ [((160 : Nat), slices_IndexFunc_Timer.ent)], EntryOK Pr q.1 q.2 := by
 intro q hq
 simp only [List.mem_cons, List.mem_nil_iff, or_false] at hq
 rcases hq with rfl
 · exact slices_IndexFunc_Timer.ok
theorem slices_ContainsFunc_Timer.ls : loopsOf (bodyOf f133) = [] := by kernel_rfl
theorem slices_ContainsFunc_Timer.ok : EntryOK Pr 133 slices_ContainsFunc_Timer.ent :=
 entry_ok (E := slices_ContainsFunc_Timer.E) (EnvOK.of dok slices_ContainsFunc_Timer.fok) mixed (fn := f133) (by kernel_rfl) (by kernel_rfl) (by decide) slices_ContainsFunc_Timer.ls (by intro l hl; simp at hl) slices_ContainsFunc_Timer.eq
/-! ### loop.example/g00038/impl.ClockFault -/
noncomputable def impl_ClockFault.E : Env := ⟨D, [], [(54, impl_yin.ent), (132, impl_yrateOk.ent), (133, slices_ContainsFunc_Timer.ent)], []⟩
noncomputable def impl_ClockFault (a0 : Int) (a1 : Int) (a2 : Int) (a3 : Int) (a4 : Int) (a5 : Bool) (a6 : List V1) : Option (Int × Unit) :=
 (impl_yin a0 0 1099511627776).bind fun r1 =>
 let r2 : Bool × Unit := (impl_yin a1 0 1099511627776).getD (false, ())
 let r3 : Bool × Unit := (impl_yrateOk a2 a3).getD (false, ())
 let b4 : Bool := ((!r1.1 || !r2.1) || !r3.1)
 let r5 : Bool × Unit := (impl_yin a4 0 (wrap64 (a3 - 1))).getD (false, ())
 let b6 : Bool := decide ((a6.length : Int) > 20)
 let r7 : Bool × Unit := (slices_ContainsFunc_Timer a6).getD (false, ())
 let b8 : Bool := (((b4 || !r5.1) || b6) || r7.1)
 bif (!(!(!r1.1)) || ((impl_yin a1 0 1099511627776).isSome)) && ((!(!(!r1.1 || !r2.1)) || ((impl_yrateOk a2 a3).isSome)) && ((!(!b4) || ((impl_yin a4 0 (wrap64 (a3 - 1))).isSome)) && (!(!((b4 || !r5.1) || b6)) || ((slices_ContainsFunc_Timer a6).isSome)))) then
  bif b8 then
   some (1, ())
  else
   some (0, ())
 else none
noncomputable def impl_ClockFault.ent : Entry := ⟨[false], [.agg [.val .bor (.int .i64), .val .bor (.int .i64), .val .bor (.int .i64), .val .bor (.int .i64), .val .bor (.int .i64), .val .bor (.bool), .val .bor (.slice R1)]], [.cell (.val .bor (.int .i64))], [], fun v => impl_ClockFault v.1 v.2.1 v.2.2.1 v.2.2.2.1 v.2.2.2.2.1 v.2.2.2.2.2.1 v.2.2.2.2.2.2.1⟩
theorem impl_ClockFault.eq : ∀ v, evFn impl_ClockFault.E f94 impl_ClockFault.ent.ptrs impl_ClockFault.ent.ins impl_ClockFault.ent.rets impl_ClockFault.ent.outs v = impl_ClockFault.ent.f v := by intro v; kernel_rfl
theorem impl_ClockFault.fok : ∀ q ∈ [((54 : Nat), impl_yin.ent), ((132 : Nat), impl_yrateOk.ent), ((133 : Nat), slices_ContainsFunc_Timer.ent)], EntryOK Pr q.1 q.2 := by
 intro q hq
 simp only [List.mem_cons, List.mem_nil_iff, or_false] at hq
 rcases hq with rfl | rfl | rfl
 · exact impl_yin.ok
 · exact impl_yrateOk.ok
 · exact slices_ContainsFunc_Timer.ok
theorem impl_ClockFault.ls : loopsOf (bodyOf f94) = [] := by kernel_rfl
theorem impl_ClockFault.ok : EntryOK Pr 94 impl_ClockFault.ent :=
 entry_ok (E := impl_ClockFault.E) (EnvOK.of dok impl_ClockFault.fok) mixed (fn := f94) (by kernel_rfl) (by kernel_rfl) (by decide) impl_ClockFault.ls (by intro l hl; simp at hl) impl_ClockFault.eq
/-! ### slices.Clone[[]loop.example/g00038/impl.Timer,loop.example/g00038/impl.Timer] -/
noncomputable def slices_Clone_Timer.E : Env := ⟨D, [], [], []⟩
noncomputable def slices_Clone_Timer (a0 : List V1) : Option (List V1 × Unit) :=
 both a0.isEmpty (
  some ([], ())) (
  bif roomy (0 + (a0.length : Int)) 24 then
   some (([] ++ a0), ())
  else none)
noncomputable def slices_Clone_Timer.ent : Entry := ⟨[false], [.cell (.val .bor (.slice R1))], [.cell (.val .own (.slice R1))], [], fun v => slices_Clone_Timer v.1⟩
theorem slices_Clone_Timer.eq : ∀ v, evFn slices_Clone_Timer.E f95 slices_Clone_Timer.ent.ptrs slices_Clone_Timer.ent.ins slices_Clone_Timer.ent.rets slices_Clone_Timer.ent.outs v = slices_Clone_Timer.ent.f v := by intro v; kernel_rfl
theorem slices_Clone_Timer.fok : ∀ q ∈ ([] : List (Nat × Entry)), EntryOK Pr q.1 q.2 := by intro q hq; simp at hq
theorem slices_Clone_Timer.ls : loopsOf (bodyOf f95) = [] := by kernel_rfl
theorem slices_Clone_Timer.ok : EntryOK Pr 95 slices_Clone_Timer.ent :=
 entry_ok (E := slices_Clone_Timer.E) (EnvOK.of dok slices_Clone_Timer.fok) mixed (fn := f95) (by kernel_rfl) (by kernel_rfl) (by decide) slices_Clone_Timer.ls (by intro l hl; simp at hl) slices_Clone_Timer.eq
/-! ### (*loop.example/g00038/impl.Clock).yticks -/
noncomputable def impl_Clock_yticks_v2.E4 : Env := ⟨D, [0], [], []⟩
noncomputable def impl_Clock_yticks_v2_l4_step (rec : Int → Int → Int → Int → Int → Int → Int → Bool → List V1 → List Int → List V1 → Option ((Int × Int × Int × Int × Int × Bool × List V1 × List Int × List V1 × Unit))) (y0 : Int) (y1 : Int) (y2 : Int) (y3 : Int) (y4 : Int) (y5 : Int) (y6 : Int) (y7 : Bool) (y8 : List V1) (y9 : List Int) (y10 : List V1) : Option ((Int × Int × Int × Int × Int × Bool × List V1 × List Int × List V1 × Unit)) :=
 bif decide (y1 < y0) then
  let e49 : V1 := rd R1 y8 y1
  bif decide (0 ≤ y1) && decide (y1 < (y8.length : Int)) then
   bif decide (e49.1 > y3) then
    bif roomy ((y9.length : Int) + (([0] : List Int).length : Int)) 8 then
     bif roomy ((y10.length : Int) + ([e49].length : Int)) 24 then
      rec y0 (wrap64 (y1 + 1)) y2 y3 y4 y5 y6 y7 y8 (y9 ++ ([0] : List Int)) (y10 ++ [e49])
     else none
    else none
   else
   bif (e49.2.1 == 0) then
    bif roomy ((y9.length : Int) + (([1] : List Int).length : Int)) 8 then
     rec y0 (wrap64 (y1 + 1)) y2 y3 y4 y5 y6 y7 y8 (y9 ++ ([1] : List Int)) y10
    else none
   else
    let x50 : Int := (wrap64 (Int.tdiv (wrap64 (y3 - e49.1)) e49.2.1))
    bif !(e49.2.1 == 0) then
     let x51 : Int := (bif decide ((1000 : Int) < (wrap64 (x50 + 1))) then 1000 else (wrap64 (x50 + 1)))
     let x52 : Int := (wrap64 ((wrap64 (x50 + 1)) * e49.2.1))
     let x53 : Int := (wrap64 ((wrap64 (x50 + 1)) * e49.2.1))
     let x55 : Int := (bif (e49.2.2 == 2) then y0 else y0)
     let x56 : Int := (bif (e49.2.2 == 2) then y1 else y1)
     let x59 : Int := (bif (e49.2.2 == 2) then e49.2.1 else e49.2.1)
     let x60 : Int := (bif (e49.2.2 == 2) then e49.2.2 else e49.2.2)
     let x61 : Int := (bif (e49.2.2 == 2) then y3 else y3)
     let x68 : Int := (bif (e49.2.2 == 2) then y2 else y2)
     let x69 : Int := (bif (e49.2.2 == 2) then y4 else y4)
     let x70 : Int := (bif (e49.2.2 == 2) then y5 else y5)
     let x71 : Int := (bif (e49.2.2 == 2) then y6 else y6)
     let b72 : Bool := (bif (e49.2.2 == 2) then y7 else y7)
     let l73 : List V1 := (bif (e49.2.2 == 2) then y8 else y8)
     let l74 : List Int := (bif (e49.2.2 == 2) then (y9 ++ ([1] : List Int)) else (y9 ++ ([1] : List Int)))
     let l75 : List V1 := (bif (e49.2.2 == 2) then y10 else y10)
     let x76 : Int := (bif (e49.2.2 == 2) then (wrap64 (e49.1 + x53)) else (wrap64 (y3 + e49.2.1)))
     let x78 : Int := (bif (e49.2.2 == 1) then y0 else x55)
     let x79 : Int := (bif (e49.2.2 == 1) then y1 else x56)
     let x82 : Int := (bif (e49.2.2 == 1) then e49.2.1 else x59)
     let x83 : Int := (bif (e49.2.2 == 1) then e49.2.2 else x60)
     let x84 : Int := (bif (e49.2.2 == 1) then y3 else x61)
     let x90 : Int := (bif (e49.2.2 == 1) then y2 else x68)
     let x91 : Int := (bif (e49.2.2 == 1) then y4 else x69)
     let x92 : Int := (bif (e49.2.2 == 1) then y5 else x70)
     let x93 : Int := (bif (e49.2.2 == 1) then y6 else x71)
     let b94 : Bool := (bif (e49.2.2 == 1) then y7 else b72)
     let l95 : List V1 := (bif (e49.2.2 == 1) then y8 else l73)
     let l96 : List Int := (bif (e49.2.2 == 1) then (y9 ++ [x51]) else l74)
     let l97 : List V1 := (bif (e49.2.2 == 1) then y10 else l75)
     let x98 : Int := (bif (e49.2.2 == 1) then (wrap64 (e49.1 + x52)) else x76)
     bif (!(e49.2.2 == 1) || (roomy ((y9.length : Int) + ([x51].length : Int)) 8)) && ((!(!(e49.2.2 == 1)) || (!(e49.2.2 == 2) || (roomy ((y9.length : Int) + (([1] : List Int).length : Int)) 8))) && (!(!(e49.2.2 == 1)) || (!(!(e49.2.2 == 2)) || (roomy ((y9.length : Int) + (([1] : List Int).length : Int)) 8)))) then
      let l99 : List V1 := (l97 ++ [(x98, x82, x83)])
      bif roomy ((l97.length : Int) + ([(x98, x82, x83)].length : Int)) 24 then
       rec x78 (wrap64 (x79 + 1)) x90 x84 x91 x92 x93 b94 l95 l96 l99
      else none
     else none
    else none
  else none
 else
  some (y2, y3, y4, y5, y6, y7, y8, y9, y10, ())
noncomputable def impl_Clock_yticks_v2_l4 : Nat → Int → Int → Int → Int → Int → Int → Int → Bool → List V1 → List Int → List V1 → Option ((Int × Int × Int × Int × Int × Bool × List V1 × List Int × List V1 × Unit))
 | 0 => fun _ _ _ _ _ _ _ _ _ _ _ => none
 | n + 1 => impl_Clock_yticks_v2_l4_step (impl_Clock_yticks_v2_l4 n)
noncomputable def impl_Clock_yticks_v2_l4.ent : LEntry := ⟨(.cell (.fix (.ptr 0 0)) :: (sk 2 (.cell (.fix (.view 3 0)) :: (.cell (.fix (.view 4 0)) :: (sk 6 (.cell (.fix (.view 0 6)) :: (.cell (.val .bor (.int .i64)) :: (.cell (.val .bor (.int .i64)) :: (sk 85 []))))))))), ([.val .bor (.int .i64), .val .bor (.int .i64), .val .bor (.int .i64), .val .bor (.int .i64), .val .bor (.int .i64), .val .bor (.bool), .val .own (.slice R1)] :: (rk 2 ([.val .own (.slice (.int .i64))] :: ([.val .own (.slice R1)] :: (rk 94 []))))), [(3, true, .int .i64), (4, true, .pair (.int .i64) (.pair (.int .i64) (.int .i64)))], [], [⟨some 0, (.cell (.fix (.ptr 0 0)) :: (sk 2 (.cell (.fix (.view 3 0)) :: (.cell (.fix (.view 4 0)) :: (sk 94 []))))), ([.val .bor (.int .i64), .val .bor (.int .i64), .val .bor (.int .i64), .val .bor (.int .i64), .val .bor (.int .i64), .val .bor (.bool), .val .own (.slice R1)] :: (rk 2 ([.val .own (.slice (.int .i64))] :: ([.val .own (.slice R1)] :: (rk 94 []))))), [], []⟩], fun v => impl_Clock_yticks_v2_l4 K0 v.1 v.2.1 v.2.2.1 v.2.2.2.1 v.2.2.2.2.1 v.2.2.2.2.2.1 v.2.2.2.2.2.2.1 v.2.2.2.2.2.2.2.1 v.2.2.2.2.2.2.2.2.1 v.2.2.2.2.2.2.2.2.2.1 v.2.2.2.2.2.2.2.2.2.2.1⟩
theorem impl_Clock_yticks_v2_l4.eq : ∀ rec v, evStep impl_Clock_yticks_v2.E4 (bodyAt 4 f136) impl_Clock_yticks_v2_l4.ent.ins impl_Clock_yticks_v2_l4.ent.rts impl_Clock_yticks_v2_l4.ent.hm impl_Clock_yticks_v2_l4.ent.nl impl_Clock_yticks_v2_l4.ent.xs rec v = impl_Clock_yticks_v2_l4_step (fun c0 c1 c2 c3 c4 c5 c6 c7 c8 c9 c10 => rec (c0, c1, c2, c3, c4, c5, c6, c7, c8, c9, c10, ())) v.1 v.2.1 v.2.2.1 v.2.2.2.1 v.2.2.2.2.1 v.2.2.2.2.2.1 v.2.2.2.2.2.2.1 v.2.2.2.2.2.2.2.1 v.2.2.2.2.2.2.2.2.1 v.2.2.2.2.2.2.2.2.2.1 v.2.2.2.2.2.2.2.2.2.2.1 := by intro rec v; kernel_rfl
noncomputable def impl_Clock_yticks_v2.E : Env := ⟨D, [0], [], [(4, impl_Clock_yticks_v2_l4.ent)]⟩
noncomputable def impl_Clock_yticks_v2 (a0 : Int) (a1 : Int) (a2 : Int) (a3 : Int) (a4 : Int) (a5 : Bool) (a6 : List V1) : Option (List Int × Int × Int × Int × Int × Int × Bool × List V1 × Unit) :=
 (impl_Clock_yticks_v2_l4 K0 (a6.length : Int) 0 a0 a1 a2 a3 a4 a5 a6 [] []).bind fun o100 =>
 some (o100.2.2.2.2.2.2.2.1, o100.1, o100.2.1, o100.2.2.1, o100.2.2.2.1, o100.2.2.2.2.1, o100.2.2.2.2.2.1, o100.2.2.2.2.2.2.2.2.1, ())
noncomputable def impl_Clock_yticks_v2.ent : Entry := ⟨[true], [.agg [.val .bor (.int .i64), .val .bor (.int .i64), .val .bor (.int .i64), .val .bor (.int .i64), .val .bor (.int .i64), .val .bor (.bool), .val .own (.slice R1)]], [.cell (.val .own (.slice (.int .i64)))], [.agg [.val .bor (.int .i64), .val .bor (.int .i64), .val .bor (.int .i64), .val .bor (.int .i64), .val .bor (.int .i64), .val .bor (.bool), .val .own (.slice R1)]], fun v => impl_Clock_yticks_v2 v.1 v.2.1 v.2.2.1 v.2.2.2.1 v.2.2.2.2.1 v.2.2.2.2.2.1 v.2.2.2.2.2.2.1⟩
theorem impl_Clock_yticks_v2.eq : ∀ v, evFn impl_Clock_yticks_v2.E f136 impl_Clock_yticks_v2.ent.ptrs impl_Clock_yticks_v2.ent.ins impl_Clock_yticks_v2.ent.rets impl_Clock_yticks_v2.ent.outs v = impl_Clock_yticks_v2.ent.f v := by intro v; kernel_rfl
theorem impl_Clock_yticks_v2.fok : ∀ q ∈ ([] : List (Nat × Entry)), EntryOK Pr q.1 q.2 := by intro q hq; simp at hq
theorem impl_Clock_yticks_v2_l4.it : ∀ n v, iter (evStep impl_Clock_yticks_v2.E4 (bodyAt 4 f136) impl_Clock_yticks_v2_l4.ent.ins impl_Clock_yticks_v2_l4.ent.rts impl_Clock_yticks_v2_l4.ent.hm impl_Clock_yticks_v2_l4.ent.nl impl_Clock_yticks_v2_l4.ent.xs) n v = impl_Clock_yticks_v2_l4 n v.1 v.2.1 v.2.2.1 v.2.2.2.1 v.2.2.2.2.1 v.2.2.2.2.2.1 v.2.2.2.2.2.2.1 v.2.2.2.2.2.2.2.1 v.2.2.2.2.2.2.2.2.1 v.2.2.2.2.2.2.2.2.2.1 v.2.2.2.2.2.2.2.2.2.2.1 := by
 intro n
 induction n with
 | zero => intro v; rfl
 | succ n ih =>
  intro v
  show (evStep impl_Clock_yticks_v2.E4 (bodyAt 4 f136) impl_Clock_yticks_v2_l4.ent.ins impl_Clock_yticks_v2_l4.ent.rts impl_Clock_yticks_v2_l4.ent.hm impl_Clock_yticks_v2_l4.ent.nl impl_Clock_yticks_v2_l4.ent.xs) (iter (evStep impl_Clock_yticks_v2.E4 (bodyAt 4 f136) impl_Clock_yticks_v2_l4.ent.ins impl_Clock_yticks_v2_l4.ent.rts impl_Clock_yticks_v2_l4.ent.hm impl_Clock_yticks_v2_l4.ent.nl impl_Clock_yticks_v2_l4.ent.xs) n) v = _
  rw [impl_Clock_yticks_v2_l4.eq, show (fun c0 c1 c2 c3 c4 c5 c6 c7 c8 c9 c10 => iter (evStep impl_Clock_yticks_v2.E4 (bodyAt 4 f136) impl_Clock_yticks_v2_l4.ent.ins impl_Clock_yticks_v2_l4.ent.rts impl_Clock_yticks_v2_l4.ent.hm impl_Clock_yticks_v2_l4.ent.nl impl_Clock_yticks_v2_l4.ent.xs) n (c0, c1, c2, c3, c4, c5, c6, c7, c8, c9, c10, ())) = impl_Clock_yticks_v2_l4 n from by funext c0 c1 c2 c3 c4 c5 c6 c7 c8 c9 c10; exact ih _]
  rfl
theorem impl_Clock_yticks_v2_l4.fr : firstRegion (bodyAt 4 f136) = 4 := by kernel_rfl
theorem impl_Clock_yticks_v2_l4.ls : loopsOf (bodyAt 4 f136) = [] := by kernel_rfl
theorem impl_Clock_yticks_v2_l4.lok {E : Env} (hpin : impl_Clock_yticks_v2.E4.pin = E.pin) (hfind : find 4 E.loops = some impl_Clock_yticks_v2_l4.ent) : LoopOK Pr E (bodyAt 4 f136) :=
 loop_of (E1 := impl_Clock_yticks_v2.E4) (EnvOK.of dok impl_Clock_yticks_v2.fok) mixed hpin (by rw [impl_Clock_yticks_v2_l4.fr]; exact hfind) impl_Clock_yticks_v2_l4.ls (by intro l hl; simp at hl) (fun v => (impl_Clock_yticks_v2_l4.it K0 v).symm)
theorem impl_Clock_yticks_v2.ls : loopsOf (bodyOf f136) = [bodyAt 4 f136] := by kernel_rfl
theorem impl_Clock_yticks_v2.ok : EntryOK Pr 136 impl_Clock_yticks_v2.ent :=
 entry_ok (E := impl_Clock_yticks_v2.E) (EnvOK.of dok impl_Clock_yticks_v2.fok) mixed (fn := f136) (by kernel_rfl) (by kernel_rfl) (by decide) impl_Clock_yticks_v2.ls (by intro l hl; simp only [List.mem_singleton] at hl; subst hl; exact impl_Clock_yticks_v2_l4.lok rfl rfl) impl_Clock_yticks_v2.eq
/-! ### slices.Delete[[]loop.example/g00038/impl.Timer,loop.example/g00038/impl.Timer] -/
noncomputable def slices_Delete_Timer_v4.E : Env := ⟨D, [], [], []⟩
noncomputable def slices_Delete_Timer_v4 (a0 : List V1) (a1 : Int) (a2 : Int) : Option (List V1 × Unit) :=
 bif (decide (0 ≤ (a0.length : Int)) && decide ((a0.length : Int) ≤ (a0.length : Int))) && ((decide (0 ≤ a2) && decide (a2 ≤ (a0.length : Int))) && (decide (0 ≤ a1) && decide (a1 ≤ a2))) then
  bif (a1 == a2) then
   some (a0, ())
  else
   let l1 : List V1 := a0.take a1.toNat ++ ((a0.take (a0.length : Int).toNat).drop a2.toNat) ++ a0.drop (a1.toNat + ((a0.take (a0.length : Int).toNat).drop a2.toNat).length)
   bif (decide (0 ≤ a1) && decide (a1 ≤ (a0.length : Int))) && ((decide (0 ≤ a2) && decide (a2 ≤ (a0.length : Int))) && (decide (a1 + (((a0.take (a0.length : Int).toNat).drop a2.toNat).length : Int) ≤ (a0.length : Int)))) then
    let l2 : List V1 := l1.take ((0 : Int) + ((a1 + (((a0.take (a0.length : Int).toNat).drop a2.toNat).length : Int)) - 0)).toNat ++ List.replicate (((0 : Int) + (a0.length : Int)) - ((0 : Int) + ((a1 + (((a0.take (a0.length : Int).toNat).drop a2.toNat).length : Int)) - 0))).toNat (Ty.dflt R1) ++ l1.drop (((0 : Int) + ((a1 + (((a0.take (a0.length : Int).toNat).drop a2.toNat).length : Int)) - 0)).toNat + (((0 : Int) + (a0.length : Int)) - ((0 : Int) + ((a1 + (((a0.take (a0.length : Int).toNat).drop a2.toNat).length : Int)) - 0))).toNat)
    bif (decide (0 ≤ (a0.length : Int)) && (decide ((a0.length : Int) ≤ (a1 + (((a0.take (a0.length : Int).toNat).drop a2.toNat).length : Int)) - 0) || (((0 : Int) == 0) && decide ((a0.length : Int) ≤ (l1.length : Int))))) && (decide (0 ≤ ((a1 + (((a0.take (a0.length : Int).toNat).drop a2.toNat).length : Int)) - 0)) && decide (((a1 + (((a0.take (a0.length : Int).toNat).drop a2.toNat).length : Int)) - 0) ≤ (a0.length : Int))) then
     some (l2.take (a1 + (((a0.take (a0.length : Int).toNat).drop a2.toNat).length : Int)).toNat, ())
    else none
   else none
 else none
noncomputable def slices_Delete_Timer_v4.ent : Entry := ⟨[false, false, false], [.cell (.val .own (.slice R1)), .cell (.val .bor (.int .i64)), .cell (.val .bor (.int .i64))], [.cell (.val .own (.slice R1))], [], fun v => slices_Delete_Timer_v4 v.1 v.2.1 v.2.2.1⟩
theorem slices_Delete_Timer_v4.eq : ∀ v, evFn slices_Delete_Timer_v4.E f137 slices_Delete_Timer_v4.ent.ptrs slices_Delete_Timer_v4.ent.ins slices_Delete_Timer_v4.ent.rets slices_Delete_Timer_v4.ent.outs v = slices_Delete_Timer_v4.ent.f v := by intro v; kernel_rfl
theorem slices_Delete_Timer_v4.fok : ∀ q ∈ ([] : List (Nat × Entry)), EntryOK Pr q.1 q.2 := by intro q hq; simp at hq
theorem slices_Delete_Timer_v4.ls : loopsOf (bodyOf f137) = [] := by kernel_rfl
theorem slices_Delete_Timer_v4.ok : EntryOK Pr 137 slices_Delete_Timer_v4.ent :=
 entry_ok (E := slices_Delete_Timer_v4.E) (EnvOK.of dok slices_Delete_Timer_v4.fok) mixed (fn := f137) (by kernel_rfl) (by kernel_rfl) (by decide) slices_Delete_Timer_v4.ls (by intro l hl; simp at hl) slices_Delete_Timer_v4.eq
/-! ### (*loop.example/g00038/impl.Clock).ydo -/
noncomputable def impl_Clock_ydo_v2.E : Env := ⟨D, [0], [(54, impl_yin.ent), (136, impl_Clock_yticks_v2.ent), (132, impl_yrateOk.ent), (135, impl_ytimerOk.ent), (137, slices_Delete_Timer_v4.ent)], []⟩
noncomputable def impl_Clock_ydo_v2 (a0 : Int) (a1 : Int) (a2 : Int) (a3 : Int) (a4 : Int) (a5 : Bool) (a6 : List V1) (a7 : Int) (a8 : Int) (a9 : Int) (a10 : Int) (a11 : Int) (a12 : Int) (a13 : Int) : Option (Int × List Int × Int × Int × Int × Int × Int × Bool × List V1 × Unit) :=
 bif (a7 == 1) then
  (impl_yin a8 a0 1099511627776).bind fun r1 =>
  bif !r1.1 then
   some (1, [], a0, a1, a2, a3, a4, a5, a6, ())
  else
   let x2 : Int := (wrap64 (a2 * (wrap64 (a8 - a0))))
   let x3 : Int := (wrap64 (Int.tdiv (wrap64 (a4 + x2)) a3))
   let x4 : Int := (Int.tmod (wrap64 (a4 + x2)) a3)
   let x6 : Int := (bif !a5 then a8 else a8)
   let x12 : Int := (bif !a5 then (wrap64 (a1 + x3)) else a1)
   let x13 : Int := (bif !a5 then x4 else a4)
   let x15 : Int := (bif !a5 then a0 else a0)
   let x18 : Int := (bif !a5 then a1 else a1)
   let x19 : Int := (bif !a5 then a4 else a4)
   let b20 : Bool := (bif !a5 then a5 else a5)
   let x22 : Int := (bif !a5 then a2 else a2)
   let x23 : Int := (bif !a5 then a3 else a3)
   let l24 : List V1 := (bif !a5 then a6 else a6)
   bif (!(!a5) || (!(a3 == 0))) && (!(!a5) || (!(a3 == 0))) then
    let b25 : Bool := decide (x12 > 1099511627776)
    bif b25 then
     some (8, [], x15, x18, x22, x23, x19, b20, l24, ())
    else
     (impl_Clock_yticks_v2 x6 x12 x22 x23 x13 b20 l24).bind fun r26 =>
     some (0, r26.1, r26.2.1, r26.2.2.1, r26.2.2.2.1, r26.2.2.2.2.1, r26.2.2.2.2.2.1, r26.2.2.2.2.2.2.1, r26.2.2.2.2.2.2.2.1, ())
   else none
 else
  let x27 : Int := (bif (a7 == 2) then a7 else a7)
  let x28 : Int := (bif (a7 == 2) then a8 else a8)
  let x29 : Int := (bif (a7 == 2) then a9 else a9)
  let x30 : Int := (bif (a7 == 2) then a10 else a10)
  let x31 : Int := (bif (a7 == 2) then a11 else a11)
  let x32 : Int := (bif (a7 == 2) then a12 else a12)
  let x33 : Int := (bif (a7 == 2) then a13 else a13)
  let b36 : Bool := (bif (a7 == 2) then (a7 == 2) else (a7 == 3))
  let x38 : Int := (bif (a7 == 2) then a0 else a0)
  let x39 : Int := (bif (a7 == 2) then a1 else a1)
  let x40 : Int := (bif (a7 == 2) then a2 else a2)
  let x41 : Int := (bif (a7 == 2) then a3 else a3)
  let x42 : Int := (bif (a7 == 2) then a4 else a4)
  let b43 : Bool := (bif (a7 == 2) then a5 else a5)
  let l44 : List V1 := (bif (a7 == 2) then a6 else a6)
  bif b36 then
   bif (b43 == (x27 == 2)) then
    some (6, [], x38, x39, x40, x41, x42, b43, l44, ())
   else
    some (0, [], x38, x39, x40, x41, x42, !b43, l44, ())
  else
  bif (x27 == 4) then
   (impl_yrateOk x29 x30).bind fun r45 =>
   bif !r45.1 then
    some (1, [], x38, x39, x40, x41, x42, b43, l44, ())
   else
    some (0, [], x38, x39, x29, x30, 0, b43, l44, ())
  else
  bif (x27 == 5) then
   (impl_yin x28 0 1099511627776).bind fun r46 =>
   bif !r46.1 then
    some (1, [], x38, x39, x40, x41, x42, b43, l44, ())
   else
    some (0, [], x38, x28, x40, x41, x42, b43, l44, ())
  else
  bif (x27 == 6) then
   (impl_ytimerOk x31 x32 x33).bind fun r47 =>
   bif !r47.1 then
    some (1, [], x38, x39, x40, x41, x42, b43, l44, ())
   else
    let b48 : Bool := ((l44.length : Int) == 20)
    bif b48 then
     some (4, [], x38, x39, x40, x41, x42, b43, l44, ())
    else
     let l49 : List V1 := (l44 ++ [(x31, x32, x33)])
     bif roomy ((l44.length : Int) + ([(x31, x32, x33)].length : Int)) 24 then
      some (0, [], x38, x39, x40, x41, x42, b43, l49, ())
     else none
  else
  bif (x27 == 7) then
   let x50 : Int := (wrap64 ((l44.length : Int) - 1))
   (impl_yin x29 0 x50).bind fun r51 =>
   bif !r51.1 then
    some (5, [], x38, x39, x40, x41, x42, b43, l44, ())
   else
    (slices_Delete_Timer_v4 l44 x29 (wrap64 (x29 + 1))).bind fun r52 =>
    some (0, [], x38, x39, x40, x41, x42, b43, r52.1, ())
  else
   some (1, [], x38, x39, x40, x41, x42, b43, l44, ())
noncomputable def impl_Clock_ydo_v2.ent : Entry := ⟨[true, false], [.agg [.val .bor (.int .i64), .val .bor (.int .i64), .val .bor (.int .i64), .val .bor (.int .i64), .val .bor (.int .i64), .val .bor (.bool), .val .own (.slice R1)], .agg [.val .bor (.int .i64), .val .bor (.int .i64), .val .bor (.int .i64), .val .bor (.int .i64), .val .bor (.int .i64), .val .bor (.int .i64), .val .bor (.int .i64)]], [.cell (.val .bor (.int .i64)), .cell (.val .own (.slice (.int .i64)))], [.agg [.val .bor (.int .i64), .val .bor (.int .i64), .val .bor (.int .i64), .val .bor (.int .i64), .val .bor (.int .i64), .val .bor (.bool), .val .own (.slice R1)]], fun v => impl_Clock_ydo_v2 v.1 v.2.1 v.2.2.1 v.2.2.2.1 v.2.2.2.2.1 v.2.2.2.2.2.1 v.2.2.2.2.2.2.1 v.2.2.2.2.2.2.2.1 v.2.2.2.2.2.2.2.2.1 v.2.2.2.2.2.2.2.2.2.1 v.2.2.2.2.2.2.2.2.2.2.1 v.2.2.2.2.2.2.2.2.2.2.2.1 v.2.2.2.2.2.2.2.2.2.2.2.2.1 v.2.2.2.2.2.2.2.2.2.2.2.2.2.1⟩
theorem impl_Clock_ydo_v2.eq : ∀ v, evFn impl_Clock_ydo_v2.E f96 impl_Clock_ydo_v2.ent.ptrs impl_Clock_ydo_v2.ent.ins impl_Clock_ydo_v2.ent.rets impl_Clock_ydo_v2.ent.outs v = impl_Clock_ydo_v2.ent.f v := by intro v; kernel_rfl
theorem impl_Clock_ydo_v2.fok : ∀ q ∈ [((54 : Nat), impl_yin.ent), ((136 : Nat), impl_Clock_yticks_v2.ent), ((132 : Nat), impl_yrateOk.ent), ((135 : Nat), impl_ytimerOk.ent), ((137 : Nat), slices_Delete_Timer_v4.ent)], EntryOK Pr q.1 q.2 := by
 intro q hq
 simp only [List.mem_cons, List.mem_nil_iff, or_false] at hq
 rcases hq with rfl | rfl | rfl | rfl | rfl
 · exact impl_yin.ok
 · exact impl_Clock_yticks_v2.ok
 · exact impl_yrateOk.ok
 · exact impl_ytimerOk.ok
 · exact slices_Delete_Timer_v4.ok
theorem impl_Clock_ydo_v2.ls : loopsOf (bodyOf f96) = [] := by kernel_rfl
theorem impl_Clock_ydo_v2.ok : EntryOK Pr 96 impl_Clock_ydo_v2.ent :=
 entry_ok (E := impl_Clock_ydo_v2.E) (EnvOK.of dok impl_Clock_ydo_v2.fok) mixed (fn := f96) (by kernel_rfl) (by kernel_rfl) (by decide) impl_Clock_ydo_v2.ls (by intro l hl; simp at hl) impl_Clock_ydo_v2.eq
/-! ### loop.example/g00038/impl.RunClock -/
noncomputable def impl_RunClock.E8 : Env := ⟨D, [], [(94, impl_ClockFault.ent), (95, slices_Clone_Timer.ent), (96, impl_Clock_ydo_v2.ent)], []⟩
noncomputable def impl_RunClock_l8_step (rec : List V2 → Int → Int → Int → Int → Int → Int → Int → Bool → List V1 → Int → Int → Int → Int → Int → Int → Bool → (List (Int × Int × List Int)) → Option ((Int × Int × Int × Int × Int × Bool × List V1 × Int × Int × Int × Int × Int × Int × Bool × List (Int × Int × List Int) × Unit))) (y0 : List V2) (y1 : Int) (y2 : Int) (y3 : Int) (y4 : Int) (y5 : Int) (y6 : Int) (y7 : Int) (y8 : Bool) (y9 : List V1) (y10 : Int) (y11 : Int) (y12 : Int) (y13 : Int) (y14 : Int) (y15 : Int) (y16 : Bool) (y17 : List (Int × Int × List Int)) : Option ((Int × Int × Int × Int × Int × Bool × List V1 × Int × Int × Int × Int × Int × Int × Bool × List (Int × Int × List Int) × Unit)) :=
 bif decide (y2 < y1) then
  let e7 : V2 := rd R2 y0 y2
  bif decide (0 ≤ y2) && decide (y2 < (y0.length : Int)) then
   (impl_Clock_ydo_v2 y3 y4 y5 y6 y7 y8 y9 e7.1 e7.2.1 e7.2.2.1 e7.2.2.2.1 e7.2.2.2.2.1 e7.2.2.2.2.2.1 e7.2.2.2.2.2.2).bind fun r8 =>
   let l9 : List (Int × Int × List Int) := [(r8.1, r8.2.2.2.1, r8.2.1)]
   bif roomy ((y17.length : Int) + (l9.length : Int)) 40 then
    rec y0 y1 (wrap64 (y2 + 1)) r8.2.2.1 r8.2.2.2.1 r8.2.2.2.2.1 r8.2.2.2.2.2.1 r8.2.2.2.2.2.2.1 r8.2.2.2.2.2.2.2.1 r8.2.2.2.2.2.2.2.2.1 y10 y11 y12 y13 y14 y15 y16 (y17 ++ l9)
   else none
  else none
 else
  some (y3, y4, y5, y6, y7, y8, y9, y10, y11, y12, y13, y14, y15, y16, y17, ())
noncomputable def impl_RunClock_l8 : Nat → List V2 → Int → Int → Int → Int → Int → Int → Int → Bool → List V1 → Int → Int → Int → Int → Int → Int → Bool → (List (Int × Int × List Int)) → Option ((Int × Int × Int × Int × Int × Bool × List V1 × Int × Int × Int × Int × Int × Int × Bool × List (Int × Int × List Int) × Unit))
 | 0 => fun _ _ _ _ _ _ _ _ _ _ _ _ _ _ _ _ _ _ => none
 | n + 1 => impl_RunClock_l8_step (impl_RunClock_l8 n)
noncomputable def impl_RunClock_l8.ent : LEntry := ⟨sk 2 (.cell (.fix (.ptr 2 0)) :: (sk 1 (.cell (.fix (.ptr 4 0)) :: (.cell (.fix (.view 5 0)) :: (sk 16 (.cell (.val .bor (.slice R2)) :: (.cell (.val .bor (.int .i64)) :: (.cell (.val .bor (.int .i64)) :: (sk 20 []))))))))), rk 2 ([.val .bor (.int .i64), .val .bor (.int .i64), .val .bor (.int .i64), .val .bor (.int .i64), .val .bor (.int .i64), .val .bor (.bool), .val .own (.slice R1)] :: (rk 1 ([.val .bor (.int .i64), .val .bor (.int .i64), .val .bor (.int .i64), .val .bor (.int .i64), .val .bor (.int .i64), .val .bor (.int .i64), .val .bor (.bool), .fix (.nil), .fix (.nil)] :: ([.val .own (.slice (.pair (.int .i64) (.pair (.int .i64) (.slice (.int .i64)))))] :: (rk 39 []))))), [(5, true, .pair (.int .i64) (.pair (.int .i64) (.slice (.int .i64))))], [], [⟨some 0, sk 2 (.cell (.fix (.ptr 2 0)) :: (sk 1 (.cell (.fix (.ptr 4 0)) :: (.cell (.fix (.view 5 0)) :: (sk 39 []))))), rk 2 ([.val .bor (.int .i64), .val .bor (.int .i64), .val .bor (.int .i64), .val .bor (.int .i64), .val .bor (.int .i64), .val .bor (.bool), .val .own (.slice R1)] :: (rk 1 ([.val .bor (.int .i64), .val .bor (.int .i64), .val .bor (.int .i64), .val .bor (.int .i64), .val .bor (.int .i64), .val .bor (.int .i64), .val .bor (.bool), .fix (.nil), .fix (.nil)] :: ([.val .own (.slice (.pair (.int .i64) (.pair (.int .i64) (.slice (.int .i64)))))] :: (rk 39 []))))), [], []⟩], fun v => impl_RunClock_l8 K0 v.1 v.2.1 v.2.2.1 v.2.2.2.1 v.2.2.2.2.1 v.2.2.2.2.2.1 v.2.2.2.2.2.2.1 v.2.2.2.2.2.2.2.1 v.2.2.2.2.2.2.2.2.1 v.2.2.2.2.2.2.2.2.2.1 v.2.2.2.2.2.2.2.2.2.2.1 v.2.2.2.2.2.2.2.2.2.2.2.1 v.2.2.2.2.2.2.2.2.2.2.2.2.1 v.2.2.2.2.2.2.2.2.2.2.2.2.2.1 v.2.2.2.2.2.2.2.2.2.2.2.2.2.2.1 v.2.2.2.2.2.2.2.2.2.2.2.2.2.2.2.1 v.2.2.2.2.2.2.2.2.2.2.2.2.2.2.2.2.1 v.2.2.2.2.2.2.2.2.2.2.2.2.2.2.2.2.2.1⟩
theorem impl_RunClock_l8.eq : ∀ rec v, evStep impl_RunClock.E8 (bodyAt 8 f30) impl_RunClock_l8.ent.ins impl_RunClock_l8.ent.rts impl_RunClock_l8.ent.hm impl_RunClock_l8.ent.nl impl_RunClock_l8.ent.xs rec v = impl_RunClock_l8_step (fun c0 c1 c2 c3 c4 c5 c6 c7 c8 c9 c10 c11 c12 c13 c14 c15 c16 c17 => rec (c0, c1, c2, c3, c4, c5, c6, c7, c8, c9, c10, c11, c12, c13, c14, c15, c16, c17, ())) v.1 v.2.1 v.2.2.1 v.2.2.2.1 v.2.2.2.2.1 v.2.2.2.2.2.1 v.2.2.2.2.2.2.1 v.2.2.2.2.2.2.2.1 v.2.2.2.2.2.2.2.2.1 v.2.2.2.2.2.2.2.2.2.1 v.2.2.2.2.2.2.2.2.2.2.1 v.2.2.2.2.2.2.2.2.2.2.2.1 v.2.2.2.2.2.2.2.2.2.2.2.2.1 v.2.2.2.2.2.2.2.2.2.2.2.2.2.1 v.2.2.2.2.2.2.2.2.2.2.2.2.2.2.1 v.2.2.2.2.2.2.2.2.2.2.2.2.2.2.2.1 v.2.2.2.2.2.2.2.2.2.2.2.2.2.2.2.2.1 v.2.2.2.2.2.2.2.2.2.2.2.2.2.2.2.2.2.1 := by intro rec v; kernel_rfl
noncomputable def impl_RunClock.E : Env := ⟨D, [], [(94, impl_ClockFault.ent), (95, slices_Clone_Timer.ent), (96, impl_Clock_ydo_v2.ent)], [(8, impl_RunClock_l8.ent)]⟩
noncomputable def impl_RunClock (a0 : Int) (a1 : Int) (a2 : Int) (a3 : Int) (a4 : Int) (a5 : Bool) (a6 : List V1) (a7 : List V2) : Option (Int × Int × Int × Int × Int × Int × Bool × List V1 × List (Int × Int × List Int) × Unit) :=
 let b1 : Bool := decide ((a7.length : Int) > 1000)
 bif b1 then
  some (2, 0, 0, 0, 0, 0, false, [], [], ())
 else
  (impl_ClockFault a0 a1 a2 a3 a4 a5 a6).bind fun r2 =>
  bif (r2.1 != 0) then
   some (1, 0, 0, 0, 0, 0, false, [], [], ())
  else
   (slices_Clone_Timer a6).bind fun r3 =>
   (impl_RunClock_l8 K0 a7 (a7.length : Int) 0 a0 a1 a2 a3 a4 a5 r3.1 0 0 0 0 0 0 false []).bind fun o10 =>
   let l11 : List (Int × Int × List Int) := o10.2.2.2.2.2.2.2.2.2.2.2.2.2.2.1
   some (0, o10.1, o10.2.1, o10.2.2.1, o10.2.2.2.1, o10.2.2.2.2.1, o10.2.2.2.2.2.1, o10.2.2.2.2.2.2.1, l11, ())
noncomputable def impl_RunClock.ent : Entry := ⟨[false, false], [.agg [.val .bor (.int .i64), .val .bor (.int .i64), .val .bor (.int .i64), .val .bor (.int .i64), .val .bor (.int .i64), .val .bor (.bool), .val .bor (.slice R1)], .cell (.val .bor (.slice R2))], [.agg [.val .bor (.int .i64), .val .bor (.int .i64), .val .bor (.int .i64), .val .bor (.int .i64), .val .bor (.int .i64), .val .bor (.int .i64), .val .bor (.bool), .val .own (.slice R1), .val .own (.slice (.pair (.int .i64) (.pair (.int .i64) (.slice (.int .i64)))))]], [], fun v => impl_RunClock v.1 v.2.1 v.2.2.1 v.2.2.2.1 v.2.2.2.2.1 v.2.2.2.2.2.1 v.2.2.2.2.2.2.1 v.2.2.2.2.2.2.2.1⟩
theorem impl_RunClock.eq : ∀ v, evFn impl_RunClock.E f30 impl_RunClock.ent.ptrs impl_RunClock.ent.ins impl_RunClock.ent.rets impl_RunClock.ent.outs v = impl_RunClock.ent.f v := by intro v; kernel_rfl
theorem impl_RunClock.fok : ∀ q ∈ [((94 : Nat), impl_ClockFault.ent), ((95 : Nat), slices_Clone_Timer.ent), ((96 : Nat), impl_Clock_ydo_v2.ent)], EntryOK Pr q.1 q.2 := by
 intro q hq
 simp only [List.mem_cons, List.mem_nil_iff, or_false] at hq
 rcases hq with rfl | rfl | rfl
 · exact impl_ClockFault.ok
 · exact slices_Clone_Timer.ok
 · exact impl_Clock_ydo_v2.ok
theorem impl_RunClock_l8.it : ∀ n v, iter (evStep impl_RunClock.E8 (bodyAt 8 f30) impl_RunClock_l8.ent.ins impl_RunClock_l8.ent.rts impl_RunClock_l8.ent.hm impl_RunClock_l8.ent.nl impl_RunClock_l8.ent.xs) n v = impl_RunClock_l8 n v.1 v.2.1 v.2.2.1 v.2.2.2.1 v.2.2.2.2.1 v.2.2.2.2.2.1 v.2.2.2.2.2.2.1 v.2.2.2.2.2.2.2.1 v.2.2.2.2.2.2.2.2.1 v.2.2.2.2.2.2.2.2.2.1 v.2.2.2.2.2.2.2.2.2.2.1 v.2.2.2.2.2.2.2.2.2.2.2.1 v.2.2.2.2.2.2.2.2.2.2.2.2.1 v.2.2.2.2.2.2.2.2.2.2.2.2.2.1 v.2.2.2.2.2.2.2.2.2.2.2.2.2.2.1 v.2.2.2.2.2.2.2.2.2.2.2.2.2.2.2.1 v.2.2.2.2.2.2.2.2.2.2.2.2.2.2.2.2.1 v.2.2.2.2.2.2.2.2.2.2.2.2.2.2.2.2.2.1 := by
 intro n
 induction n with
 | zero => intro v; rfl
 | succ n ih =>
  intro v
  show (evStep impl_RunClock.E8 (bodyAt 8 f30) impl_RunClock_l8.ent.ins impl_RunClock_l8.ent.rts impl_RunClock_l8.ent.hm impl_RunClock_l8.ent.nl impl_RunClock_l8.ent.xs) (iter (evStep impl_RunClock.E8 (bodyAt 8 f30) impl_RunClock_l8.ent.ins impl_RunClock_l8.ent.rts impl_RunClock_l8.ent.hm impl_RunClock_l8.ent.nl impl_RunClock_l8.ent.xs) n) v = _
  rw [impl_RunClock_l8.eq, show (fun c0 c1 c2 c3 c4 c5 c6 c7 c8 c9 c10 c11 c12 c13 c14 c15 c16 c17 => iter (evStep impl_RunClock.E8 (bodyAt 8 f30) impl_RunClock_l8.ent.ins impl_RunClock_l8.ent.rts impl_RunClock_l8.ent.hm impl_RunClock_l8.ent.nl impl_RunClock_l8.ent.xs) n (c0, c1, c2, c3, c4, c5, c6, c7, c8, c9, c10, c11, c12, c13, c14, c15, c16, c17, ())) = impl_RunClock_l8 n from by funext c0 c1 c2 c3 c4 c5 c6 c7 c8 c9 c10 c11 c12 c13 c14 c15 c16 c17; exact ih _]
  rfl
theorem impl_RunClock_l8.fr : firstRegion (bodyAt 8 f30) = 8 := by kernel_rfl
theorem impl_RunClock_l8.ls : loopsOf (bodyAt 8 f30) = [] := by kernel_rfl
theorem impl_RunClock_l8.lok {E : Env} (hpin : impl_RunClock.E8.pin = E.pin) (hfind : find 8 E.loops = some impl_RunClock_l8.ent) : LoopOK Pr E (bodyAt 8 f30) :=
 loop_of (E1 := impl_RunClock.E8) (EnvOK.of dok impl_RunClock.fok) mixed hpin (by rw [impl_RunClock_l8.fr]; exact hfind) impl_RunClock_l8.ls (by intro l hl; simp at hl) (fun v => (impl_RunClock_l8.it K0 v).symm)
theorem impl_RunClock.ls : loopsOf (bodyOf f30) = [bodyAt 8 f30] := by kernel_rfl
theorem impl_RunClock.ok : EntryOK Pr 30 impl_RunClock.ent :=
 entry_ok (E := impl_RunClock.E) (EnvOK.of dok impl_RunClock.fok) mixed (fn := f30) (by kernel_rfl) (by kernel_rfl) (by decide) impl_RunClock.ls (by intro l hl; simp only [List.mem_singleton] at hl; subst hl; exact impl_RunClock_l8.lok rfl rfl) impl_RunClock.eq
/-! ### loop.example/g00038/spec.l01Min -/
noncomputable def spec_l01Min.E : Env := ⟨D, [], [], []⟩
noncomputable def spec_l01Min (a0 : Int) (a1 : Int) : Option (Int × Unit) :=
 bif decide (a0 < a1) then
  some (a0, ())
 else
  some (a1, ())
noncomputable def spec_l01Min.ent : Entry := ⟨[false, false], [.cell (.val .bor (.int .i64)), .cell (.val .bor (.int .i64))], [.cell (.val .bor (.int .i64))], [], fun v => spec_l01Min v.1 v.2.1⟩
theorem spec_l01Min.eq : ∀ v, evFn spec_l01Min.E f147 spec_l01Min.ent.ptrs spec_l01Min.ent.ins spec_l01Min.ent.rets spec_l01Min.ent.outs v = spec_l01Min.ent.f v := by intro v; kernel_rfl
theorem spec_l01Min.fok : ∀ q ∈ ([] : List (Nat × Entry)), EntryOK Pr q.1 q.2 := by intro q hq; simp at hq
theorem spec_l01Min.ls : loopsOf (bodyOf f147) = [] := by kernel_rfl
theorem spec_l01Min.ok : EntryOK Pr 147 spec_l01Min.ent :=
 entry_ok (E := spec_l01Min.E) (EnvOK.of dok spec_l01Min.fok) mixed (fn := f147) (by kernel_rfl) (by kernel_rfl) (by decide) spec_l01Min.ls (by intro l hl; simp at hl) spec_l01Min.eq
/-! ### loop.example/g00038/spec.l09Ticks -/
noncomputable def spec_l09Ticks.E : Env := ⟨D, [], [(147, spec_l01Min.ent)], []⟩
noncomputable def spec_l09Ticks (a0 : Int) (a1 : Int) (a2 : Int) (a3 : Int) : Option (Int × Int × Int × Int × Bool × Unit) :=
 bif decide (a0 > a3) then
  some (0, a0, a1, a2, true, ())
 else
 bif (a1 == 0) then
  some (1, a0, a1, a2, false, ())
 else
  let x1 : Int := (wrap64 (Int.tdiv (wrap64 (a3 - a0)) a1))
  bif !(a1 == 0) then
   bif (a2 == 1) then
    let x2 : Int := (wrap64 ((wrap64 (x1 + 1)) * a1))
    (spec_l01Min (wrap64 (x1 + 1)) 1000).bind fun r3 =>
    some (r3.1, (wrap64 (a0 + x2)), a1, a2, true, ())
   else
    let x4 : Int := (wrap64 ((wrap64 (x1 + 1)) * a1))
    let x6 : Int := (bif (a2 == 2) then a1 else a1)
    let x7 : Int := (bif (a2 == 2) then a2 else a2)
    let x17 : Int := (bif (a2 == 2) then (wrap64 (a0 + x4)) else (wrap64 (a3 + a1)))
    some (1, x17, x6, x7, true, ())
  else none
noncomputable def spec_l09Ticks.ent : Entry := ⟨[false, false], [.agg [.val .bor (.int .i64), .val .bor (.int .i64), .val .bor (.int .i64)], .cell (.val .bor (.int .i64))], [.cell (.val .bor (.int .i64)), .agg [.val .bor (.int .i64), .val .bor (.int .i64), .val .bor (.int .i64)], .cell (.val .bor (.bool))], [], fun v => spec_l09Ticks v.1 v.2.1 v.2.2.1 v.2.2.2.1⟩
theorem spec_l09Ticks.eq : ∀ v, evFn spec_l09Ticks.E f159 spec_l09Ticks.ent.ptrs spec_l09Ticks.ent.ins spec_l09Ticks.ent.rets spec_l09Ticks.ent.outs v = spec_l09Ticks.ent.f v := by intro v; kernel_rfl
theorem spec_l09Ticks.fok : ∀ q ∈ [((147 : Nat), spec_l01Min.ent)], EntryOK Pr q.1 q.2 := by
 intro q hq
 simp only [List.mem_cons, List.mem_nil_iff, or_false] at hq
 rcases hq with rfl
 · exact spec_l01Min.ok
theorem spec_l09Ticks.ls : loopsOf (bodyOf f159) = [] := by kernel_rfl
theorem spec_l09Ticks.ok : EntryOK Pr 159 spec_l09Ticks.ent :=
 entry_ok (E := spec_l09Ticks.E) (EnvOK.of dok spec_l09Ticks.fok) mixed (fn := f159) (by kernel_rfl) (by kernel_rfl) (by decide) spec_l09Ticks.ls (by intro l hl; simp at hl) spec_l09Ticks.eq
/-! ### loop.example/g00038/spec.l09Advance -/
noncomputable def spec_l09Advance_v3.E13 : Env := ⟨D, [], [(159, spec_l09Ticks.ent)], []⟩
noncomputable def spec_l09Advance_v3_l13_step (rec : Int → Int → Int → Int → Int → Int → Bool → List V1 → Int → Int → Int → Int → Int → Bool → Int → Int → Int → Int → List Int → List V1 → Option ((Int × Int × Int × Int × Int × Bool × List V1 × Int × Int × Int × Int × Int × Bool × Int × Int × Int × Int × List Int × List V1 × Unit))) (y0 : Int) (y1 : Int) (y2 : Int) (y3 : Int) (y4 : Int) (y5 : Int) (y6 : Bool) (y7 : List V1) (y8 : Int) (y9 : Int) (y10 : Int) (y11 : Int) (y12 : Int) (y13 : Bool) (y14 : Int) (y15 : Int) (y16 : Int) (y17 : Int) (y18 : List Int) (y19 : List V1) : Option ((Int × Int × Int × Int × Int × Bool × List V1 × Int × Int × Int × Int × Int × Bool × Int × Int × Int × Int × List Int × List V1 × Unit)) :=
 let b40 : Bool := decide (y0 < (y7.length : Int))
 bif b40 then
  let e41 : V1 := rd R1 y7 y0
  (spec_l09Ticks e41.1 e41.2.1 e41.2.2 y2).bind fun r42 =>
  bif decide (0 ≤ y0) && decide (y0 < (y7.length : Int)) then
   bif roomy ((y18.length : Int) + ([r42.1].length : Int)) 8 then
    let l43 : List V1 := [(r42.2.1, r42.2.2.1, r42.2.2.2.1)]
    let x44 : Int := (bif r42.2.2.2.2.1 then y0 else y0)
    let l47 : List V1 := (bif r42.2.2.2.2.1 then y7 else y7)
    let x53 : Int := (bif r42.2.2.2.2.1 then y2 else y2)
    let x57 : Int := (bif r42.2.2.2.2.1 then y1 else y1)
    let x58 : Int := (bif r42.2.2.2.2.1 then y3 else y3)
    let x59 : Int := (bif r42.2.2.2.2.1 then y4 else y4)
    let x60 : Int := (bif r42.2.2.2.2.1 then y5 else y5)
    let b61 : Bool := (bif r42.2.2.2.2.1 then y6 else y6)
    let x62 : Int := (bif r42.2.2.2.2.1 then y8 else y8)
    let x63 : Int := (bif r42.2.2.2.2.1 then y9 else y9)
    let x64 : Int := (bif r42.2.2.2.2.1 then y10 else y10)
    let x65 : Int := (bif r42.2.2.2.2.1 then y11 else y11)
    let x66 : Int := (bif r42.2.2.2.2.1 then y12 else y12)
    let b67 : Bool := (bif r42.2.2.2.2.1 then y13 else y13)
    let x68 : Int := (bif r42.2.2.2.2.1 then y14 else y14)
    let x69 : Int := (bif r42.2.2.2.2.1 then y15 else y15)
    let x70 : Int := (bif r42.2.2.2.2.1 then y16 else y16)
    let x71 : Int := (bif r42.2.2.2.2.1 then y17 else y17)
    let l72 : List Int := (bif r42.2.2.2.2.1 then (y18 ++ [r42.1]) else (y18 ++ [r42.1]))
    let l73 : List V1 := (bif r42.2.2.2.2.1 then (y19 ++ l43) else y19)
    bif (!r42.2.2.2.2.1 || (roomy ((y19.length : Int) + (l43.length : Int)) 24)) then
     rec (wrap64 (x44 + 1)) x57 x53 x58 x59 x60 b61 l47 x62 x63 x64 x65 x66 b67 x68 x69 x70 x71 l72 l73
    else none
   else none
  else none
 else
  some (y1, y2, y3, y4, y5, y6, y7, y8, y9, y10, y11, y12, y13, y14, y15, y16, y17, y18, y19, ())
noncomputable def spec_l09Advance_v3_l13 : Nat → Int → Int → Int → Int → Int → Int → Bool → List V1 → Int → Int → Int → Int → Int → Bool → Int → Int → Int → Int → List Int → List V1 → Option ((Int × Int × Int × Int × Int × Bool × List V1 × Int × Int × Int × Int × Int × Bool × Int × Int × Int × Int × List Int × List V1 × Unit))
 | 0 => fun _ _ _ _ _ _ _ _ _ _ _ _ _ _ _ _ _ _ _ _ => none
 | n + 1 => spec_l09Advance_v3_l13_step (spec_l09Advance_v3_l13 n)
noncomputable def spec_l09Advance_v3_l13.ent : LEntry := ⟨sk 2 (.cell (.fix (.ptr 2 0)) :: (sk 1 (.cell (.fix (.ptr 4 0)) :: (.cell (.fix (.ptr 5 0)) :: (sk 1 (.cell (.fix (.ptr 7 0)) :: (.cell (.fix (.view 8 0)) :: (.cell (.val .bor (.int .i64)) :: (sk 93 []))))))))), rk 2 ([.val .bor (.int .i64), .val .bor (.int .i64), .val .bor (.int .i64), .val .bor (.int .i64), .val .bor (.int .i64), .val .bor (.bool), .val .imm (.slice R1)] :: (rk 1 ([.val .bor (.int .i64), .val .bor (.int .i64), .val .bor (.int .i64), .val .bor (.int .i64), .val .bor (.int .i64), .val .bor (.bool), .fix (.nil)] :: ([.val .bor (.int .i64), .val .bor (.int .i64), .fix (.nil)] :: (rk 1 ([.val .bor (.int .i64), .val .bor (.int .i64), .val .own (.slice (.int .i64))] :: ([.val .own (.slice R1)] :: (rk 94 [])))))))), [(8, true, .pair (.int .i64) (.pair (.int .i64) (.int .i64)))], [(7, 2, true, .int .i64)], [⟨some 0, sk 2 (.cell (.fix (.ptr 2 0)) :: (sk 1 (.cell (.fix (.ptr 4 0)) :: (.cell (.fix (.ptr 5 0)) :: (sk 1 (.cell (.fix (.ptr 7 0)) :: (.cell (.fix (.view 8 0)) :: (sk 94 [])))))))), rk 2 ([.val .bor (.int .i64), .val .bor (.int .i64), .val .bor (.int .i64), .val .bor (.int .i64), .val .bor (.int .i64), .val .bor (.bool), .val .imm (.slice R1)] :: (rk 1 ([.val .bor (.int .i64), .val .bor (.int .i64), .val .bor (.int .i64), .val .bor (.int .i64), .val .bor (.int .i64), .val .bor (.bool), .fix (.nil)] :: ([.val .bor (.int .i64), .val .bor (.int .i64), .fix (.nil)] :: (rk 1 ([.val .bor (.int .i64), .val .bor (.int .i64), .val .own (.slice (.int .i64))] :: ([.val .own (.slice R1)] :: (rk 94 [])))))))), [], []⟩], fun v => spec_l09Advance_v3_l13 K0 v.1 v.2.1 v.2.2.1 v.2.2.2.1 v.2.2.2.2.1 v.2.2.2.2.2.1 v.2.2.2.2.2.2.1 v.2.2.2.2.2.2.2.1 v.2.2.2.2.2.2.2.2.1 v.2.2.2.2.2.2.2.2.2.1 v.2.2.2.2.2.2.2.2.2.2.1 v.2.2.2.2.2.2.2.2.2.2.2.1 v.2.2.2.2.2.2.2.2.2.2.2.2.1 v.2.2.2.2.2.2.2.2.2.2.2.2.2.1 v.2.2.2.2.2.2.2.2.2.2.2.2.2.2.1 v.2.2.2.2.2.2.2.2.2.2.2.2.2.2.2.1 v.2.2.2.2.2.2.2.2.2.2.2.2.2.2.2.2.1 v.2.2.2.2.2.2.2.2.2.2.2.2.2.2.2.2.2.1 v.2.2.2.2.2.2.2.2.2.2.2.2.2.2.2.2.2.2.1 v.2.2.2.2.2.2.2.2.2.2.2.2.2.2.2.2.2.2.2.1⟩
theorem spec_l09Advance_v3_l13.eq : ∀ rec v, evStep spec_l09Advance_v3.E13 (bodyAt 13 f130) spec_l09Advance_v3_l13.ent.ins spec_l09Advance_v3_l13.ent.rts spec_l09Advance_v3_l13.ent.hm spec_l09Advance_v3_l13.ent.nl spec_l09Advance_v3_l13.ent.xs rec v = spec_l09Advance_v3_l13_step (fun c0 c1 c2 c3 c4 c5 c6 c7 c8 c9 c10 c11 c12 c13 c14 c15 c16 c17 c18 c19 => rec (c0, c1, c2, c3, c4, c5, c6, c7, c8, c9, c10, c11, c12, c13, c14, c15, c16, c17, c18, c19, ())) v.1 v.2.1 v.2.2.1 v.2.2.2.1 v.2.2.2.2.1 v.2.2.2.2.2.1 v.2.2.2.2.2.2.1 v.2.2.2.2.2.2.2.1 v.2.2.2.2.2.2.2.2.1 v.2.2.2.2.2.2.2.2.2.1 v.2.2.2.2.2.2.2.2.2.2.1 v.2.2.2.2.2.2.2.2.2.2.2.1 v.2.2.2.2.2.2.2.2.2.2.2.2.1 v.2.2.2.2.2.2.2.2.2.2.2.2.2.1 v.2.2.2.2.2.2.2.2.2.2.2.2.2.2.1 v.2.2.2.2.2.2.2.2.2.2.2.2.2.2.2.1 v.2.2.2.2.2.2.2.2.2.2.2.2.2.2.2.2.1 v.2.2.2.2.2.2.2.2.2.2.2.2.2.2.2.2.2.1 v.2.2.2.2.2.2.2.2.2.2.2.2.2.2.2.2.2.2.1 v.2.2.2.2.2.2.2.2.2.2.2.2.2.2.2.2.2.2.2.1 := by intro rec v; kernel_rfl
noncomputable def spec_l09Advance_v3.E : Env := ⟨D, [], [(159, spec_l09Ticks.ent)], [(13, spec_l09Advance_v3_l13.ent)]⟩
noncomputable def spec_l09Advance_v3 (a0 : Int) (a1 : Int) (a2 : Int) (a3 : Int) (a4 : Int) (a5 : Bool) (a6 : List V1) (a7 : Int) : Option (Int × Int × Int × Int × Int × Bool × List V1 × Int × Int × List Int × Unit) :=
 let b1 : Bool := decide (a7 > 1099511627776)
 bif (decide (a7 < a0) || b1) then
  some (a0, a1, a2, a3, a4, a5, a6, 1, a1, [], ())
 else
 bif !a5 then
  let x2 : Int := (wrap64 (a2 * (wrap64 (a7 - a0))))
  let x3 : Int := (wrap64 (Int.tdiv (wrap64 (a4 + x2)) a3))
  let b4 : Bool := decide ((wrap64 (a1 + x3)) > 1099511627776)
  bif !(a3 == 0) then
   bif b4 then
    some (a0, a1, a2, a3, a4, a5, a6, 8, a1, [], ())
   else
    bif !(a3 == 0) then
     let x5 : Int := (Int.tmod (wrap64 (a4 + x2)) a3)
     bif !(a3 == 0) then
      (spec_l09Advance_v3_l13 K0 0 a7 (wrap64 (a1 + x3)) a2 a3 x5 a5 a6 0 0 0 0 0 false 0 0 0 (wrap64 (a1 + x3)) [] []).bind fun o75 =>
      let l76 : List V1 := o75.2.2.2.2.2.2.2.2.2.2.2.2.2.2.2.2.2.2.1
      let x77 : Int := o75.2.2.2.2.2.2.2.2.2.2.2.2.2.2.2.1
      let x78 : Int := o75.2.2.2.2.2.2.2.2.2.2.2.2.2.2.2.2.1
      let l79 : List Int := o75.2.2.2.2.2.2.2.2.2.2.2.2.2.2.2.2.2.1
      some (o75.1, o75.2.1, o75.2.2.1, o75.2.2.2.1, o75.2.2.2.2.1, o75.2.2.2.2.2.1, l76, x77, x78, l79, ())
     else none
    else none
  else none
 else
  (spec_l09Advance_v3_l13 K0 0 a7 a1 a2 a3 a4 a5 a6 0 0 0 0 0 false 0 0 0 a1 [] []).bind fun o80 =>
  let l81 : List V1 := o80.2.2.2.2.2.2.2.2.2.2.2.2.2.2.2.2.2.2.1
  let x82 : Int := o80.2.2.2.2.2.2.2.2.2.2.2.2.2.2.2.1
  let x83 : Int := o80.2.2.2.2.2.2.2.2.2.2.2.2.2.2.2.2.1
  let l84 : List Int := o80.2.2.2.2.2.2.2.2.2.2.2.2.2.2.2.2.2.1
  some (o80.1, o80.2.1, o80.2.2.1, o80.2.2.2.1, o80.2.2.2.2.1, o80.2.2.2.2.2.1, l81, x82, x83, l84, ())
noncomputable def spec_l09Advance_v3.ent : Entry := ⟨[false, false], [.agg [.val .bor (.int .i64), .val .bor (.int .i64), .val .bor (.int .i64), .val .bor (.int .i64), .val .bor (.int .i64), .val .bor (.bool), .val .imm (.slice R1)], .cell (.val .bor (.int .i64))], [.agg [.val .bor (.int .i64), .val .bor (.int .i64), .val .bor (.int .i64), .val .bor (.int .i64), .val .bor (.int .i64), .val .bor (.bool), .val .imm (.slice R1)], .agg [.val .bor (.int .i64), .val .bor (.int .i64), .val .own (.slice (.int .i64))]], [], fun v => spec_l09Advance_v3 v.1 v.2.1 v.2.2.1 v.2.2.2.1 v.2.2.2.2.1 v.2.2.2.2.2.1 v.2.2.2.2.2.2.1 v.2.2.2.2.2.2.2.1⟩
theorem spec_l09Advance_v3.eq : ∀ v, evFn spec_l09Advance_v3.E f130 spec_l09Advance_v3.ent.ptrs spec_l09Advance_v3.ent.ins spec_l09Advance_v3.ent.rets spec_l09Advance_v3.ent.outs v = spec_l09Advance_v3.ent.f v := by intro v; kernel_rfl
theorem spec_l09Advance_v3.fok : ∀ q ∈ [((159 : Nat), spec_l09Ticks.ent)], EntryOK Pr q.1 q.2 := by
 intro q hq
 simp only [List.mem_cons, List.mem_nil_iff, or_false] at hq
 rcases hq with rfl
 · exact spec_l09Ticks.ok
theorem spec_l09Advance_v3_l13.it : ∀ n v, iter (evStep spec_l09Advance_v3.E13 (bodyAt 13 f130) spec_l09Advance_v3_l13.ent.ins spec_l09Advance_v3_l13.ent.rts spec_l09Advance_v3_l13.ent.hm spec_l09Advance_v3_l13.ent.nl spec_l09Advance_v3_l13.ent.xs) n v = spec_l09Advance_v3_l13 n v.1 v.2.1 v.2.2.1 v.2.2.2.1 v.2.2.2.2.1 v.2.2.2.2.2.1 v.2.2.2.2.2.2.1 v.2.2.2.2.2.2.2.1 v.2.2.2.2.2.2.2.2.1 v.2.2.2.2.2.2.2.2.2.1 v.2.2.2.2.2.2.2.2.2.2.1 v.2.2.2.2.2.2.2.2.2.2.2.1 v.2.2.2.2.2.2.2.2.2.2.2.2.1 v.2.2.2.2.2.2.2.2.2.2.2.2.2.1 v.2.2.2.2.2.2.2.2.2.2.2.2.2.2.1 v.2.2.2.2.2.2.2.2.2.2.2.2.2.2.2.1 v.2.2.2.2.2.2.2.2.2.2.2.2.2.2.2.2.1 v.2.2.2.2.2.2.2.2.2.2.2.2.2.2.2.2.2.1 v.2.2.2.2.2.2.2.2.2.2.2.2.2.2.2.2.2.2.1 v.2.2.2.2.2.2.2.2.2.2.2.2.2.2.2.2.2.2.2.1 := by
 intro n
 induction n with
 | zero => intro v; rfl
 | succ n ih =>
  intro v
  show (evStep spec_l09Advance_v3.E13 (bodyAt 13 f130) spec_l09Advance_v3_l13.ent.ins spec_l09Advance_v3_l13.ent.rts spec_l09Advance_v3_l13.ent.hm spec_l09Advance_v3_l13.ent.nl spec_l09Advance_v3_l13.ent.xs) (iter (evStep spec_l09Advance_v3.E13 (bodyAt 13 f130) spec_l09Advance_v3_l13.ent.ins spec_l09Advance_v3_l13.ent.rts spec_l09Advance_v3_l13.ent.hm spec_l09Advance_v3_l13.ent.nl spec_l09Advance_v3_l13.ent.xs) n) v = _
  rw [spec_l09Advance_v3_l13.eq, show (fun c0 c1 c2 c3 c4 c5 c6 c7 c8 c9 c10 c11 c12 c13 c14 c15 c16 c17 c18 c19 => iter (evStep spec_l09Advance_v3.E13 (bodyAt 13 f130) spec_l09Advance_v3_l13.ent.ins spec_l09Advance_v3_l13.ent.rts spec_l09Advance_v3_l13.ent.hm spec_l09Advance_v3_l13.ent.nl spec_l09Advance_v3_l13.ent.xs) n (c0, c1, c2, c3, c4, c5, c6, c7, c8, c9, c10, c11, c12, c13, c14, c15, c16, c17, c18, c19, ())) = spec_l09Advance_v3_l13 n from by funext c0 c1 c2 c3 c4 c5 c6 c7 c8 c9 c10 c11 c12 c13 c14 c15 c16 c17 c18 c19; exact ih _]
  rfl
theorem spec_l09Advance_v3_l13.fr : firstRegion (bodyAt 13 f130) = 13 := by kernel_rfl
theorem spec_l09Advance_v3_l13.ls : loopsOf (bodyAt 13 f130) = [] := by kernel_rfl
theorem spec_l09Advance_v3_l13.lok {E : Env} (hpin : spec_l09Advance_v3.E13.pin = E.pin) (hfind : find 13 E.loops = some spec_l09Advance_v3_l13.ent) : LoopOK Pr E (bodyAt 13 f130) :=
 loop_of (E1 := spec_l09Advance_v3.E13) (EnvOK.of dok spec_l09Advance_v3.fok) mixed hpin (by rw [spec_l09Advance_v3_l13.fr]; exact hfind) spec_l09Advance_v3_l13.ls (by intro l hl; simp at hl) (fun v => (spec_l09Advance_v3_l13.it K0 v).symm)
theorem spec_l09Advance_v3.ls : loopsOf (bodyOf f130) = [bodyAt 13 f130] := by kernel_rfl
theorem spec_l09Advance_v3.ok : EntryOK Pr 130 spec_l09Advance_v3.ent :=
 entry_ok (E := spec_l09Advance_v3.E) (EnvOK.of dok spec_l09Advance_v3.fok) mixed (fn := f130) (by kernel_rfl) (by kernel_rfl) (by decide) spec_l09Advance_v3.ls (by intro l hl; simp only [List.mem_singleton] at hl; subst hl; exact spec_l09Advance_v3_l13.lok rfl rfl) spec_l09Advance_v3.eq
/-! ### loop.example/g00038/spec.l09Do -/
noncomputable def spec_l09Do_v3.E : Env := ⟨D, [], [(130, spec_l09Advance_v3.ent), (105, spec_l09Rate.ent), (106, spec_l09Timer.ent)], []⟩
noncomputable def spec_l09Do_v3 (a0 : Int) (a1 : Int) (a2 : Int) (a3 : Int) (a4 : Int) (a5 : Bool) (a6 : List V1) (a7 : Int) (a8 : Int) (a9 : Int) (a10 : Int) (a11 : Int) (a12 : Int) (a13 : Int) : Option (Int × Int × Int × Int × Int × Bool × List V1 × Int × Int × List Int × Unit) :=
 bif (a7 == 1) then
  (spec_l09Advance_v3 a0 a1 a2 a3 a4 a5 a6 a8).bind fun r1 =>
  some (r1.1, r1.2.1, r1.2.2.1, r1.2.2.2.1, r1.2.2.2.2.1, r1.2.2.2.2.2.1, r1.2.2.2.2.2.2.1, r1.2.2.2.2.2.2.2.1, r1.2.2.2.2.2.2.2.2.1, r1.2.2.2.2.2.2.2.2.2.1, ())
 else
  let x2 : Int := (bif (a7 == 2) then a0 else a0)
  let x3 : Int := (bif (a7 == 2) then a1 else a1)
  let x4 : Int := (bif (a7 == 2) then a2 else a2)
  let x5 : Int := (bif (a7 == 2) then a3 else a3)
  let x6 : Int := (bif (a7 == 2) then a4 else a4)
  let b7 : Bool := (bif (a7 == 2) then a5 else a5)
  let l8 : List V1 := (bif (a7 == 2) then a6 else a6)
  let x9 : Int := (bif (a7 == 2) then a7 else a7)
  let x10 : Int := (bif (a7 == 2) then a8 else a8)
  let x11 : Int := (bif (a7 == 2) then a9 else a9)
  let x12 : Int := (bif (a7 == 2) then a10 else a10)
  let x13 : Int := (bif (a7 == 2) then a11 else a11)
  let x14 : Int := (bif (a7 == 2) then a12 else a12)
  let x15 : Int := (bif (a7 == 2) then a13 else a13)
  let x16 : Int := (bif (a7 == 2) then 0 else 0)
  let b18 : Bool := (bif (a7 == 2) then (a7 == 2) else (a7 == 3))
  bif b18 then
   bif (b7 == (x9 == 2)) then
    some (x2, x3, x4, x5, x6, b7, l8, 6, x3, [], ())
   else
    some (x2, x3, x4, x5, x6, !b7, l8, x16, x3, [], ())
  else
  bif (x9 == 4) then
   (spec_l09Rate x11 x12).bind fun r20 =>
   bif !r20.1 then
    some (x2, x3, x4, x5, x6, b7, l8, 1, x3, [], ())
   else
    some (x2, x3, x11, x12, 0, b7, l8, x16, x3, [], ())
  else
  bif (x9 == 5) then
   let b21 : Bool := decide (x10 > 1099511627776)
   let b22 : Bool := (decide (x10 < 0) || b21)
   bif b22 then
    some (x2, x3, x4, x5, x6, b7, l8, 1, x3, [], ())
   else
    some (x2, x10, x4, x5, x6, b7, l8, x16, x10, [], ())
  else
  bif (x9 == 6) then
   (spec_l09Timer x13 x14 x15).bind fun r23 =>
   let b24 : Bool := ((l8.length : Int) == 20)
   let l25 : List V1 := (([] ++ l8) ++ [(x13, x14, x15)])
   let x26 : Int := (bif b24 then x2 else x2)
   let x27 : Int := (bif b24 then x3 else x3)
   let x28 : Int := (bif b24 then x4 else x4)
   let x29 : Int := (bif b24 then x5 else x5)
   let x30 : Int := (bif b24 then x6 else x6)
   let b31 : Bool := (bif b24 then b7 else b7)
   let x40 : Int := (bif b24 then 4 else x16)
   let l51 : List V1 := (bif b24 then l8 else l25)
   let x54 : Int := (bif !r23.1 then x2 else x26)
   let x55 : Int := (bif !r23.1 then x3 else x27)
   let x56 : Int := (bif !r23.1 then x4 else x28)
   let x57 : Int := (bif !r23.1 then x5 else x29)
   let x58 : Int := (bif !r23.1 then x6 else x30)
   let b59 : Bool := (bif !r23.1 then b7 else b31)
   let x68 : Int := (bif !r23.1 then 1 else x40)
   let l77 : List V1 := (bif !r23.1 then l8 else l51)
   bif (!(!(!r23.1)) || (!(!b24) || (roomy (0 + (l8.length : Int)) 24))) && (!(!(!r23.1)) || (!(!b24) || (roomy ((([] ++ l8).length : Int) + ([(x13, x14, x15)].length : Int)) 24))) then
    some (x54, x55, x56, x57, x58, b59, l77, x68, x55, [], ())
   else none
  else
  bif (x9 == 7) then
   let b80 : Bool := decide (x11 ≥ (l8.length : Int))
   let b81 : Bool := (decide (x11 < 0) || b80)
   bif b81 then
    some (x2, x3, x4, x5, x6, b7, l8, 5, x3, [], ())
   else
    let l82 : List V1 := ([] ++ (l8.take x11.toNat))
    let l83 : List V1 := l8.drop (wrap64 (x11 + 1)).toNat
    bif (decide (0 ≤ x11) && decide (x11 ≤ (l8.length : Int))) && ((roomy (0 + ((l8.take x11.toNat).length : Int)) 24) && ((decide (0 ≤ (wrap64 (x11 + 1))) && decide ((wrap64 (x11 + 1)) ≤ (l8.length : Int))) && (roomy ((l82.length : Int) + (l83.length : Int)) 24))) then
     some (x2, x3, x4, x5, x6, b7, (l82 ++ l83), x16, x3, [], ())
    else none
  else
   some (x2, x3, x4, x5, x6, b7, l8, 1, x3, [], ())
noncomputable def spec_l09Do_v3.ent : Entry := ⟨[false, false], [.agg [.val .bor (.int .i64), .val .bor (.int .i64), .val .bor (.int .i64), .val .bor (.int .i64), .val .bor (.int .i64), .val .bor (.bool), .val .imm (.slice R1)], .agg [.val .bor (.int .i64), .val .bor (.int .i64), .val .bor (.int .i64), .val .bor (.int .i64), .val .bor (.int .i64), .val .bor (.int .i64), .val .bor (.int .i64)]], [.agg [.val .bor (.int .i64), .val .bor (.int .i64), .val .bor (.int .i64), .val .bor (.int .i64), .val .bor (.int .i64), .val .bor (.bool), .val .imm (.slice R1)], .agg [.val .bor (.int .i64), .val .bor (.int .i64), .val .own (.slice (.int .i64))]], [], fun v => spec_l09Do_v3 v.1 v.2.1 v.2.2.1 v.2.2.2.1 v.2.2.2.2.1 v.2.2.2.2.2.1 v.2.2.2.2.2.2.1 v.2.2.2.2.2.2.2.1 v.2.2.2.2.2.2.2.2.1 v.2.2.2.2.2.2.2.2.2.1 v.2.2.2.2.2.2.2.2.2.2.1 v.2.2.2.2.2.2.2.2.2.2.2.1 v.2.2.2.2.2.2.2.2.2.2.2.2.1 v.2.2.2.2.2.2.2.2.2.2.2.2.2.1⟩
theorem spec_l09Do_v3.eq : ∀ v, evFn spec_l09Do_v3.E f91 spec_l09Do_v3.ent.ptrs spec_l09Do_v3.ent.ins spec_l09Do_v3.ent.rets spec_l09Do_v3.ent.outs v = spec_l09Do_v3.ent.f v := by intro v; kernel_rfl
theorem spec_l09Do_v3.fok : ∀ q ∈ [((130 : Nat), spec_l09Advance_v3.ent), ((105 : Nat), spec_l09Rate.ent), ((106 : Nat), spec_l09Timer.ent)], EntryOK Pr q.1 q.2 := by
 intro q hq
 simp only [List.mem_cons, List.mem_nil_iff, or_false] at hq
 rcases hq with rfl | rfl | rfl
 · exact spec_l09Advance_v3.ok
 · exact spec_l09Rate.ok
 · exact spec_l09Timer.ok
theorem spec_l09Do_v3.ls : loopsOf (bodyOf f91) = [] := by kernel_rfl
theorem spec_l09Do_v3.ok : EntryOK Pr 91 spec_l09Do_v3.ent :=
 entry_ok (E := spec_l09Do_v3.E) (EnvOK.of dok spec_l09Do_v3.fok) mixed (fn := f91) (by kernel_rfl) (by kernel_rfl) (by decide) spec_l09Do_v3.ls (by intro l hl; simp at hl) spec_l09Do_v3.eq
/-! ### loop.example/g00038/spec.RunClock -/
noncomputable def spec_RunClock.E8 : Env := ⟨D, [], [(39, spec_ClockFault.ent), (91, spec_l09Do_v3.ent)], []⟩
noncomputable def spec_RunClock_l8_step (rec : List V2 → Int → Int → Int → Int → Int → Int → Bool → List V1 → Int → Int → Int → Int → Int → Int → Bool → (List (Int × Int × List Int)) → Option ((Int × Int × Int × Int × Int × Bool × List V1 × Int × Int × Int × Int × Int × Int × Bool × List (Int × Int × List Int) × Unit))) (y0 : List V2) (y1 : Int) (y2 : Int) (y3 : Int) (y4 : Int) (y5 : Int) (y6 : Int) (y7 : Bool) (y8 : List V1) (y9 : Int) (y10 : Int) (y11 : Int) (y12 : Int) (y13 : Int) (y14 : Int) (y15 : Bool) (y16 : List (Int × Int × List Int)) : Option ((Int × Int × Int × Int × Int × Bool × List V1 × Int × Int × Int × Int × Int × Int × Bool × List (Int × Int × List Int) × Unit)) :=
 let b7 : Bool := decide (y1 < (y0.length : Int))
 bif b7 then
  let e8 : V2 := rd R2 y0 y1
  (spec_l09Do_v3 y2 y3 y4 y5 y6 y7 y8 e8.1 e8.2.1 e8.2.2.1 e8.2.2.2.1 e8.2.2.2.2.1 e8.2.2.2.2.2.1 e8.2.2.2.2.2.2).bind fun r9 =>
  bif decide (0 ≤ y1) && decide (y1 < (y0.length : Int)) then
   let l10 : List (Int × Int × List Int) := [(r9.2.2.2.2.2.2.2.1, r9.2.2.2.2.2.2.2.2.1, r9.2.2.2.2.2.2.2.2.2.1)]
   bif roomy ((y16.length : Int) + (l10.length : Int)) 40 then
    rec y0 (wrap64 (y1 + 1)) r9.1 r9.2.1 r9.2.2.1 r9.2.2.2.1 r9.2.2.2.2.1 r9.2.2.2.2.2.1 r9.2.2.2.2.2.2.1 y9 y10 y11 y12 y13 y14 y15 (y16 ++ l10)
   else none
  else none
 else
  some (y2, y3, y4, y5, y6, y7, y8, y9, y10, y11, y12, y13, y14, y15, y16, ())
noncomputable def spec_RunClock_l8 : Nat → List V2 → Int → Int → Int → Int → Int → Int → Bool → List V1 → Int → Int → Int → Int → Int → Int → Bool → (List (Int × Int × List Int)) → Option ((Int × Int × Int × Int × Int × Bool × List V1 × Int × Int × Int × Int × Int × Int × Bool × List (Int × Int × List Int) × Unit))
 | 0 => fun _ _ _ _ _ _ _ _ _ _ _ _ _ _ _ _ _ => none
 | n + 1 => spec_RunClock_l8_step (spec_RunClock_l8 n)
noncomputable def spec_RunClock_l8.ent : LEntry := ⟨sk 1 (.cell (.val .bor (.slice R2)) :: (.cell (.fix (.ptr 2 0)) :: (sk 1 (.cell (.fix (.ptr 4 0)) :: (.cell (.fix (.view 5 0)) :: (.cell (.val .bor (.int .i64)) :: (sk 38 []))))))), rk 2 ([.val .bor (.int .i64), .val .bor (.int .i64), .val .bor (.int .i64), .val .bor (.int .i64), .val .bor (.int .i64), .val .bor (.bool), .val .imm (.slice R1)] :: (rk 1 ([.val .bor (.int .i64), .val .bor (.int .i64), .val .bor (.int .i64), .val .bor (.int .i64), .val .bor (.int .i64), .val .bor (.int .i64), .val .bor (.bool), .fix (.nil), .fix (.nil)] :: ([.val .own (.slice (.pair (.int .i64) (.pair (.int .i64) (.slice (.int .i64)))))] :: (rk 39 []))))), [(5, true, .pair (.int .i64) (.pair (.int .i64) (.slice (.int .i64))))], [(2, 6, false, .pair (.int .i64) (.pair (.int .i64) (.int .i64)))], [⟨some 0, sk 2 (.cell (.fix (.ptr 2 0)) :: (sk 1 (.cell (.fix (.ptr 4 0)) :: (.cell (.fix (.view 5 0)) :: (sk 39 []))))), rk 2 ([.val .bor (.int .i64), .val .bor (.int .i64), .val .bor (.int .i64), .val .bor (.int .i64), .val .bor (.int .i64), .val .bor (.bool), .val .imm (.slice R1)] :: (rk 1 ([.val .bor (.int .i64), .val .bor (.int .i64), .val .bor (.int .i64), .val .bor (.int .i64), .val .bor (.int .i64), .val .bor (.int .i64), .val .bor (.bool), .fix (.nil), .fix (.nil)] :: ([.val .own (.slice (.pair (.int .i64) (.pair (.int .i64) (.slice (.int .i64)))))] :: (rk 39 []))))), [], []⟩], fun v => spec_RunClock_l8 K0 v.1 v.2.1 v.2.2.1 v.2.2.2.1 v.2.2.2.2.1 v.2.2.2.2.2.1 v.2.2.2.2.2.2.1 v.2.2.2.2.2.2.2.1 v.2.2.2.2.2.2.2.2.1 v.2.2.2.2.2.2.2.2.2.1 v.2.2.2.2.2.2.2.2.2.2.1 v.2.2.2.2.2.2.2.2.2.2.2.1 v.2.2.2.2.2.2.2.2.2.2.2.2.1 v.2.2.2.2.2.2.2.2.2.2.2.2.2.1 v.2.2.2.2.2.2.2.2.2.2.2.2.2.2.1 v.2.2.2.2.2.2.2.2.2.2.2.2.2.2.2.1 v.2.2.2.2.2.2.2.2.2.2.2.2.2.2.2.2.1⟩
theorem spec_RunClock_l8.eq : ∀ rec v, evStep spec_RunClock.E8 (bodyAt 8 f27) spec_RunClock_l8.ent.ins spec_RunClock_l8.ent.rts spec_RunClock_l8.ent.hm spec_RunClock_l8.ent.nl spec_RunClock_l8.ent.xs rec v = spec_RunClock_l8_step (fun c0 c1 c2 c3 c4 c5 c6 c7 c8 c9 c10 c11 c12 c13 c14 c15 c16 => rec (c0, c1, c2, c3, c4, c5, c6, c7, c8, c9, c10, c11, c12, c13, c14, c15, c16, ())) v.1 v.2.1 v.2.2.1 v.2.2.2.1 v.2.2.2.2.1 v.2.2.2.2.2.1 v.2.2.2.2.2.2.1 v.2.2.2.2.2.2.2.1 v.2.2.2.2.2.2.2.2.1 v.2.2.2.2.2.2.2.2.2.1 v.2.2.2.2.2.2.2.2.2.2.1 v.2.2.2.2.2.2.2.2.2.2.2.1 v.2.2.2.2.2.2.2.2.2.2.2.2.1 v.2.2.2.2.2.2.2.2.2.2.2.2.2.1 v.2.2.2.2.2.2.2.2.2.2.2.2.2.2.1 v.2.2.2.2.2.2.2.2.2.2.2.2.2.2.2.1 v.2.2.2.2.2.2.2.2.2.2.2.2.2.2.2.2.1 := by intro rec v; kernel_rfl
noncomputable def spec_RunClock.E : Env := ⟨D, [], [(39, spec_ClockFault.ent), (91, spec_l09Do_v3.ent)], [(8, spec_RunClock_l8.ent)]⟩
noncomputable def spec_RunClock (a0 : Int) (a1 : Int) (a2 : Int) (a3 : Int) (a4 : Int) (a5 : Bool) (a6 : List V1) (a7 : List V2) : Option (Int × Int × Int × Int × Int × Int × Bool × List V1 × List (Int × Int × List Int) × Unit) :=
 let b1 : Bool := decide ((a7.length : Int) > 1000)
 bif b1 then
  some (2, 0, 0, 0, 0, 0, false, [], [], ())
 else
  (spec_ClockFault a0 a1 a2 a3 a4 a5 a6).bind fun r2 =>
  bif (r2.1 != 0) then
   some (1, 0, 0, 0, 0, 0, false, [], [], ())
  else
   bif roomy (0 + (a6.length : Int)) 24 then
    (spec_RunClock_l8 K0 a7 0 a0 a1 a2 a3 a4 a5 ([] ++ a6) 0 0 0 0 0 0 false []).bind fun o11 =>
    let l12 : List (Int × Int × List Int) := o11.2.2.2.2.2.2.2.2.2.2.2.2.2.2.1
    some (0, o11.1, o11.2.1, o11.2.2.1, o11.2.2.2.1, o11.2.2.2.2.1, o11.2.2.2.2.2.1, o11.2.2.2.2.2.2.1, l12, ())
   else none
noncomputable def spec_RunClock.ent : Entry := ⟨[false, false], [.agg [.val .bor (.int .i64), .val .bor (.int .i64), .val .bor (.int .i64), .val .bor (.int .i64), .val .bor (.int .i64), .val .bor (.bool), .val .bor (.slice R1)], .cell (.val .bor (.slice R2))], [.agg [.val .bor (.int .i64), .val .bor (.int .i64), .val .bor (.int .i64), .val .bor (.int .i64), .val .bor (.int .i64), .val .bor (.int .i64), .val .bor (.bool), .val .imm (.slice R1), .val .own (.slice (.pair (.int .i64) (.pair (.int .i64) (.slice (.int .i64)))))]], [], fun v => spec_RunClock v.1 v.2.1 v.2.2.1 v.2.2.2.1 v.2.2.2.2.1 v.2.2.2.2.2.1 v.2.2.2.2.2.2.1 v.2.2.2.2.2.2.2.1⟩
theorem spec_RunClock.eq : ∀ v, evFn spec_RunClock.E f27 spec_RunClock.ent.ptrs spec_RunClock.ent.ins spec_RunClock.ent.rets spec_RunClock.ent.outs v = spec_RunClock.ent.f v := by intro v; kernel_rfl
theorem spec_RunClock.fok : ∀ q ∈ [((39 : Nat), spec_ClockFault.ent), ((91 : Nat), spec_l09Do_v3.ent)], EntryOK Pr q.1 q.2 := by
 intro q hq
 simp only [List.mem_cons, List.mem_nil_iff, or_false] at hq
 rcases hq with rfl | rfl
 · exact spec_ClockFault.ok
 · exact spec_l09Do_v3.ok
theorem spec_RunClock_l8.it : ∀ n v, iter (evStep spec_RunClock.E8 (bodyAt 8 f27) spec_RunClock_l8.ent.ins spec_RunClock_l8.ent.rts spec_RunClock_l8.ent.hm spec_RunClock_l8.ent.nl spec_RunClock_l8.ent.xs) n v = spec_RunClock_l8 n v.1 v.2.1 v.2.2.1 v.2.2.2.1 v.2.2.2.2.1 v.2.2.2.2.2.1 v.2.2.2.2.2.2.1 v.2.2.2.2.2.2.2.1 v.2.2.2.2.2.2.2.2.1 v.2.2.2.2.2.2.2.2.2.1 v.2.2.2.2.2.2.2.2.2.2.1 v.2.2.2.2.2.2.2.2.2.2.2.1 v.2.2.2.2.2.2.2.2.2.2.2.2.1 v.2.2.2.2.2.2.2.2.2.2.2.2.2.1 v.2.2.2.2.2.2.2.2.2.2.2.2.2.2.1 v.2.2.2.2.2.2.2.2.2.2.2.2.2.2.2.1 v.2.2.2.2.2.2.2.2.2.2.2.2.2.2.2.2.1 := by
 intro n
 induction n with
 | zero => intro v; rfl
 | succ n ih =>
  intro v
  show (evStep spec_RunClock.E8 (bodyAt 8 f27) spec_RunClock_l8.ent.ins spec_RunClock_l8.ent.rts spec_RunClock_l8.ent.hm spec_RunClock_l8.ent.nl spec_RunClock_l8.ent.xs) (iter (evStep spec_RunClock.E8 (bodyAt 8 f27) spec_RunClock_l8.ent.ins spec_RunClock_l8.ent.rts spec_RunClock_l8.ent.hm spec_RunClock_l8.ent.nl spec_RunClock_l8.ent.xs) n) v = _
  rw [spec_RunClock_l8.eq, show (fun c0 c1 c2 c3 c4 c5 c6 c7 c8 c9 c10 c11 c12 c13 c14 c15 c16 => iter (evStep spec_RunClock.E8 (bodyAt 8 f27) spec_RunClock_l8.ent.ins spec_RunClock_l8.ent.rts spec_RunClock_l8.ent.hm spec_RunClock_l8.ent.nl spec_RunClock_l8.ent.xs) n (c0, c1, c2, c3, c4, c5, c6, c7, c8, c9, c10, c11, c12, c13, c14, c15, c16, ())) = spec_RunClock_l8 n from by funext c0 c1 c2 c3 c4 c5 c6 c7 c8 c9 c10 c11 c12 c13 c14 c15 c16; exact ih _]
  rfl
theorem spec_RunClock_l8.fr : firstRegion (bodyAt 8 f27) = 8 := by kernel_rfl
theorem spec_RunClock_l8.ls : loopsOf (bodyAt 8 f27) = [] := by kernel_rfl
theorem spec_RunClock_l8.lok {E : Env} (hpin : spec_RunClock.E8.pin = E.pin) (hfind : find 8 E.loops = some spec_RunClock_l8.ent) : LoopOK Pr E (bodyAt 8 f27) :=
 loop_of (E1 := spec_RunClock.E8) (EnvOK.of dok spec_RunClock.fok) mixed hpin (by rw [spec_RunClock_l8.fr]; exact hfind) spec_RunClock_l8.ls (by intro l hl; simp at hl) (fun v => (spec_RunClock_l8.it K0 v).symm)
theorem spec_RunClock.ls : loopsOf (bodyOf f27) = [bodyAt 8 f27] := by kernel_rfl
theorem spec_RunClock.ok : EntryOK Pr 27 spec_RunClock.ent :=
 entry_ok (E := spec_RunClock.E) (EnvOK.of dok spec_RunClock.fok) mixed (fn := f27) (by kernel_rfl) (by kernel_rfl) (by decide) spec_RunClock.ls (by intro l hl; simp only [List.mem_singleton] at hl; subst hl; exact spec_RunClock_l8.lok rfl rfl) spec_RunClock.eq
/-! ### loop.example/g00038/laws.FnClockParts -/
noncomputable def laws_FnClockParts.E : Env := ⟨D, [], [(38, spec_DrawClockFault_v3.ent), (39, spec_ClockFault.ent), (40, laws_lwAt.ent), (30, impl_RunClock.ent), (27, spec_RunClock.ent)], []⟩
noncomputable def laws_FnClockParts (a0 : List Int) (a1 : List Int) : Option (Bool × Unit) :=
 let b1 : Bool := decide ((a0.length : Int) > 1048576)
 let b2 : Bool := decide ((a1.length : Int) > 1048576)
 bif (b1 || b2) then
  some (true, ())
 else
  (spec_DrawClockFault_v3 a0).bind fun r3 =>
  (spec_ClockFault r3.1 r3.2.1 r3.2.2.1 r3.2.2.2.1 r3.2.2.2.2.1 r3.2.2.2.2.2.1 []).bind fun r4 =>
  let b5 : Bool := decide (r3.1 > 1073741824)
  let b6 : Bool := decide (r3.2.1 > 1073741824)
  let b7 : Bool := (((r4.1 != 0) || b5) || b6)
  bif b7 then
   some (true, ())
  else
   (laws_lwAt a1 0 256).bind fun r8 =>
   (laws_lwAt a1 1 256).bind fun r9 =>
   let x10 : Int := (wrap64 ((wrap64 (r3.1 + r8.1)) + r9.1))
   let l11 : List V2 := [(1, x10, 0, 0, 0, 0, 0)]
   (impl_RunClock r3.1 r3.2.1 r3.2.2.1 r3.2.2.2.1 r3.2.2.2.2.1 r3.2.2.2.2.2.1 [] l11).bind fun r12 =>
   let l13 : List V2 := [(1, (wrap64 (r3.1 + r8.1)), 0, 0, 0, 0, 0), (1, x10, 0, 0, 0, 0, 0)]
   (impl_RunClock r3.1 r3.2.1 r3.2.2.1 r3.2.2.2.1 r3.2.2.2.2.1 r3.2.2.2.2.2.1 [] l13).bind fun r14 =>
   (spec_RunClock r3.1 r3.2.1 r3.2.2.1 r3.2.2.2.1 r3.2.2.2.2.1 r3.2.2.2.2.2.1 [] l11).bind fun r15 =>
   let b16 : Bool := ((r12.1 == 0) && (r14.1 == 0))
   let b17 : Bool := (b16 && (r12.2.2.1 == r14.2.2.1))
   let b18 : Bool := (r12.2.2.2.2.2.1 == r14.2.2.2.2.2.1)
   let b19 : Bool := ((b17 && b18) && (r12.2.2.1 == r15.2.2.1))
   let b20 : Bool := (!r3.2.2.2.2.2.1 || (r12.2.2.1 == r3.2.1))
   some ((b19 && b20), ())
noncomputable def laws_FnClockParts.ent : Entry := ⟨[false, false], [.cell (.val .imm (.slice (.int .u8))), .cell (.val .imm (.slice (.int .u8)))], [.cell (.val .bor (.bool))], [], fun v => laws_FnClockParts v.1 v.2.1⟩
theorem laws_FnClockParts.eq : ∀ v, evFn laws_FnClockParts.E f6 laws_FnClockParts.ent.ptrs laws_FnClockParts.ent.ins laws_FnClockParts.ent.rets laws_FnClockParts.ent.outs v = laws_FnClockParts.ent.f v := by intro v; kernel_rfl
theorem laws_FnClockParts.fok : ∀ q ∈ [((38 : Nat), spec_DrawClockFault_v3.ent), ((39 : Nat), spec_ClockFault.ent), ((40 : Nat), laws_lwAt.ent), ((30 : Nat), impl_RunClock.ent), ((27 : Nat), spec_RunClock.ent)], EntryOK Pr q.1 q.2 := by
 intro q hq
 simp only [List.mem_cons, List.mem_nil_iff, or_false] at hq
 rcases hq with rfl | rfl | rfl | rfl | rfl
 · exact spec_DrawClockFault_v3.ok
 · exact spec_ClockFault.ok
 · exact laws_lwAt.ok
 · exact impl_RunClock.ok
 · exact spec_RunClock.ok
theorem laws_FnClockParts.ls : loopsOf (bodyOf f6) = [] := by kernel_rfl
theorem laws_FnClockParts.ok : EntryOK Pr 6 laws_FnClockParts.ent :=
 entry_ok (E := laws_FnClockParts.E) (EnvOK.of dok laws_FnClockParts.fok) mixed (fn := f6) (by kernel_rfl) (by kernel_rfl) (by decide) laws_FnClockParts.ls (by intro l hl; simp at hl) laws_FnClockParts.eq
end Go.Ab.FnClockParts