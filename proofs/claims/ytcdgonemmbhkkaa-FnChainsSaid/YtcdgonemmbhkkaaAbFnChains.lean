/- The functions that the law FnChains reaches, over plain values, and that each does what its code does: part 1 of 1. Without conditions. -/
import Derived.Test.YtcdgonemmbhkkaaProg
import Derived.Test.YtcdgonemmbhkkaaAbD
namespace Go.Ab.FnChains
open Go.RowKit
set_option linter.unusedVariables false
set_option maxRecDepth 100000
noncomputable def tds : List (Option TD) := [
  none,
  some ⟨.other, 1, .opq, 8, false⟩,
  some ⟨.int .i64, 1, .int .i64, 8, false⟩,
  some ⟨.int .i64, 1, .int .i64, 8, false⟩,
  some ⟨.bool, 1, .bool, 1, false⟩,
  some ⟨.int .u8, 1, .int .u8, 1, false⟩,
  some ⟨.int .u8, 1, .int .u8, 1, false⟩,
  some ⟨.struct [(0, 2), (1, 3), (2, 4), (3, 6)], 4, .pair (.int .i64) (.pair (.int .i64) (.pair (.bool) (.int .u8))), 24, true⟩,
  some ⟨.struct [(0, 2), (1, 3), (2, 4), (3, 6)], 4, .pair (.int .i64) (.pair (.int .i64) (.pair (.bool) (.int .u8))), 24, true⟩,
  some ⟨.str, 1, .str, 16, false⟩,
  some ⟨.str, 1, .str, 16, false⟩,
  some ⟨.str, 1, .str, 16, false⟩,
  some ⟨.int .u64, 1, .int .u64, 8, false⟩,
  none,
  none,
  some ⟨.ptr 215, 1, .opq, 8, false⟩,
  some ⟨.ptr 218, 1, .opq, 8, false⟩,
  some ⟨.ptr 227, 1, .opq, 8, false⟩,
  some ⟨.struct [(0, 17)], 1, .opq, 8, true⟩,
  some ⟨.struct [(0, 17)], 1, .opq, 8, true⟩,
  none,
  some ⟨.int .i32, 1, .int .i32, 4, false⟩,
  some ⟨.slice 5, 1, .slice (.int .u8), 24, false⟩,
  some ⟨.struct [(0, 2), (1, 2), (2, 2), (3, 2), (4, 2), (5, 2)], 6, .pair (.int .i64) (.pair (.int .i64) (.pair (.int .i64) (.pair (.int .i64) (.pair (.int .i64) (.int .i64))))), 48, true⟩,
  some ⟨.struct [(0, 2), (1, 2), (2, 2), (3, 2), (4, 2), (5, 2)], 6, .pair (.int .i64) (.pair (.int .i64) (.pair (.int .i64) (.pair (.int .i64) (.pair (.int .i64) (.int .i64))))), 48, true⟩,
  some ⟨.slice 39, 1, .slice (.pair (.int .i64) (.pair (.int .i64) (.bool))), 24, false⟩,
  none,
  some ⟨.other, 1, .opq, 8, false⟩,
  some ⟨.struct [(0, 2), (1, 9), (2, 24), (8, 4)], 9, .pair (.int .i64) (.pair (.str) (.pair (.int .i64) (.pair (.int .i64) (.pair (.int .i64) (.pair (.int .i64) (.pair (.int .i64) (.pair (.int .i64) (.bool)))))))), 80, true⟩,
  some ⟨.struct [(0, 2), (1, 9), (2, 24), (8, 4)], 9, .pair (.int .i64) (.pair (.str) (.pair (.int .i64) (.pair (.int .i64) (.pair (.int .i64) (.pair (.int .i64) (.pair (.int .i64) (.pair (.int .i64) (.bool)))))))), 80, true⟩,
  some ⟨.other, 1, .opq, 8, false⟩,
  some ⟨.other, 1, .opq, 8, false⟩,
  some ⟨.struct [(0, 4), (1, 2)], 2, .pair (.bool) (.int .i64), 16, true⟩,
  some ⟨.struct [(0, 4), (1, 2)], 2, .pair (.bool) (.int .i64), 16, true⟩,
  some ⟨.other, 1, .opq, 8, false⟩,
  some ⟨.struct [(0, 2), (1, 2), (2, 25), (3, 24)], 9, .pair (.int .i64) (.pair (.int .i64) (.pair (.slice (.pair (.int .i64) (.pair (.int .i64) (.bool)))) (.pair (.int .i64) (.pair (.int .i64) (.pair (.int .i64) (.pair (.int .i64) (.pair (.int .i64) (.int .i64)))))))), 88, true⟩,
  some ⟨.struct [(0, 2), (1, 2), (2, 25), (3, 24)], 9, .pair (.int .i64) (.pair (.int .i64) (.pair (.slice (.pair (.int .i64) (.pair (.int .i64) (.bool)))) (.pair (.int .i64) (.pair (.int .i64) (.pair (.int .i64) (.pair (.int .i64) (.pair (.int .i64) (.int .i64)))))))), 88, true⟩,
  some ⟨.other, 1, .opq, 8, false⟩,
  some ⟨.struct [(0, 2), (1, 2), (2, 4)], 3, .pair (.int .i64) (.pair (.int .i64) (.bool)), 24, true⟩,
  some ⟨.struct [(0, 2), (1, 2), (2, 4)], 3, .pair (.int .i64) (.pair (.int .i64) (.bool)), 24, true⟩,
  some ⟨.other, 1, .opq, 8, false⟩,
  some ⟨.other, 1, .opq, 8, false⟩,
  none,
  some ⟨.other, 1, .opq, 8, false⟩,
  some ⟨.slice 55, 1, .slice (.pair (.int .i64) (.pair (.int .i64) (.pair (.int .i64) (.pair (.int .i64) (.bool))))), 24, false⟩,
  some ⟨.struct [(0, 44), (1, 2)], 2, .pair (.slice (.pair (.int .i64) (.pair (.int .i64) (.pair (.int .i64) (.pair (.int .i64) (.bool)))))) (.int .i64), 32, true⟩,
  some ⟨.struct [(0, 44), (1, 2)], 2, .pair (.slice (.pair (.int .i64) (.pair (.int .i64) (.pair (.int .i64) (.pair (.int .i64) (.bool)))))) (.int .i64), 32, true⟩,
  some ⟨.other, 1, .opq, 8, false⟩,
  some ⟨.slice 2, 1, .slice (.int .i64), 24, false⟩,
  some ⟨.struct [(0, 2), (1, 2), (2, 2), (3, 4), (4, 48), (5, 9)], 6, .pair (.int .i64) (.pair (.int .i64) (.pair (.int .i64) (.pair (.bool) (.pair (.slice (.int .i64)) (.str))))), 72, true⟩,
  some ⟨.struct [(0, 2), (1, 2), (2, 2), (3, 4), (4, 48), (5, 9)], 6, .pair (.int .i64) (.pair (.int .i64) (.pair (.int .i64) (.pair (.bool) (.pair (.slice (.int .i64)) (.str))))), 72, true⟩,
  some ⟨.other, 1, .opq, 8, false⟩,
  some ⟨.other, 1, .opq, 8, false⟩,
  some ⟨.int .u64, 1, .int .u64, 8, false⟩,
  some ⟨.struct [(0, 2), (1, 2), (2, 2), (3, 2), (4, 4)], 5, .pair (.int .i64) (.pair (.int .i64) (.pair (.int .i64) (.pair (.int .i64) (.bool)))), 40, true⟩,
  some ⟨.struct [(0, 2), (1, 2), (2, 2), (3, 2), (4, 4)], 5, .pair (.int .i64) (.pair (.int .i64) (.pair (.int .i64) (.pair (.int .i64) (.bool)))), 40, true⟩,
  some ⟨.other, 1, .opq, 8, false⟩,
  some ⟨.other, 1, .opq, 8, false⟩,
  some ⟨.struct [(0, 4), (1, 2), (2, 2)], 3, .pair (.bool) (.pair (.int .i64) (.int .i64)), 24, true⟩,
  some ⟨.struct [(0, 4), (1, 2), (2, 2)], 3, .pair (.bool) (.pair (.int .i64) (.int .i64)), 24, true⟩,
  some ⟨.other, 1, .opq, 8, false⟩,
  some ⟨.other, 1, .opq, 8, false⟩,
  some ⟨.slice 142, 1, .slice (.pair (.int .i64) (.pair (.int .i64) (.int .i64))), 24, false⟩,
  some ⟨.struct [(0, 2), (1, 2), (2, 2), (3, 2), (4, 2), (5, 4), (6, 62)], 7, .pair (.int .i64) (.pair (.int .i64) (.pair (.int .i64) (.pair (.int .i64) (.pair (.int .i64) (.pair (.bool) (.slice (.pair (.int .i64) (.pair (.int .i64) (.int .i64))))))))), 72, true⟩,
  some ⟨.struct [(0, 2), (1, 2), (2, 2), (3, 2), (4, 2), (5, 4), (6, 62)], 7, .pair (.int .i64) (.pair (.int .i64) (.pair (.int .i64) (.pair (.int .i64) (.pair (.int .i64) (.pair (.bool) (.slice (.pair (.int .i64) (.pair (.int .i64) (.int .i64))))))))), 72, true⟩,
  some ⟨.slice 144, 1, .slice (.pair (.int .i64) (.pair (.int .i64) (.pair (.int .i64) (.pair (.int .i64) (.pair (.int .i64) (.pair (.int .i64) (.int .i64))))))), 24, false⟩,
  some ⟨.other, 1, .opq, 8, false⟩,
  some ⟨.other, 1, .opq, 8, false⟩,
  some ⟨.slice 89, 1, .slice (.pair (.int .i64) (.pair (.int .i64) (.int .i64))), 24, false⟩,
  some ⟨.struct [(0, 2), (1, 2), (2, 2), (3, 2), (4, 2), (5, 4), (6, 68)], 7, .pair (.int .i64) (.pair (.int .i64) (.pair (.int .i64) (.pair (.int .i64) (.pair (.int .i64) (.pair (.bool) (.slice (.pair (.int .i64) (.pair (.int .i64) (.int .i64))))))))), 72, true⟩,
  some ⟨.struct [(0, 2), (1, 2), (2, 2), (3, 2), (4, 2), (5, 4), (6, 68)], 7, .pair (.int .i64) (.pair (.int .i64) (.pair (.int .i64) (.pair (.int .i64) (.pair (.int .i64) (.pair (.bool) (.slice (.pair (.int .i64) (.pair (.int .i64) (.int .i64))))))))), 72, true⟩,
  some ⟨.slice 137, 1, .slice (.pair (.int .i64) (.pair (.int .i64) (.slice (.int .i64)))), 24, false⟩,
  some ⟨.struct [(0, 2), (1, 70), (8, 71)], 9, .pair (.int .i64) (.pair (.int .i64) (.pair (.int .i64) (.pair (.int .i64) (.pair (.int .i64) (.pair (.int .i64) (.pair (.bool) (.pair (.slice (.pair (.int .i64) (.pair (.int .i64) (.int .i64)))) (.slice (.pair (.int .i64) (.pair (.int .i64) (.slice (.int .i64)))))))))))), 104, true⟩,
  some ⟨.struct [(0, 2), (1, 70), (8, 71)], 9, .pair (.int .i64) (.pair (.int .i64) (.pair (.int .i64) (.pair (.int .i64) (.pair (.int .i64) (.pair (.int .i64) (.pair (.bool) (.pair (.slice (.pair (.int .i64) (.pair (.int .i64) (.int .i64)))) (.slice (.pair (.int .i64) (.pair (.int .i64) (.slice (.int .i64)))))))))))), 104, true⟩,
  some ⟨.other, 1, .opq, 8, false⟩,
  some ⟨.other, 1, .opq, 8, false⟩,
  some ⟨.slice 91, 1, .slice (.pair (.int .i64) (.pair (.int .i64) (.pair (.int .i64) (.pair (.int .i64) (.pair (.int .i64) (.pair (.int .i64) (.int .i64))))))), 24, false⟩,
  some ⟨.other, 1, .opq, 8, false⟩,
  some ⟨.other, 1, .opq, 8, false⟩,
  some ⟨.other, 1, .opq, 8, false⟩,
  some ⟨.other, 1, .opq, 8, false⟩,
  some ⟨.other, 1, .opq, 8, false⟩,
  some ⟨.other, 1, .opq, 8, false⟩,
  some ⟨.other, 1, .opq, 8, false⟩,
  some ⟨.other, 1, .opq, 8, false⟩,
  some ⟨.other, 1, .opq, 8, false⟩,
  some ⟨.other, 1, .opq, 8, false⟩,
  some ⟨.other, 1, .opq, 8, false⟩,
  some ⟨.struct [(0, 2), (1, 2), (2, 2)], 3, .pair (.int .i64) (.pair (.int .i64) (.int .i64)), 24, true⟩,
  some ⟨.struct [(0, 2), (1, 2), (2, 2)], 3, .pair (.int .i64) (.pair (.int .i64) (.int .i64)), 24, true⟩,
  some ⟨.struct [(0, 2), (1, 2), (2, 2), (3, 2), (4, 89)], 7, .pair (.int .i64) (.pair (.int .i64) (.pair (.int .i64) (.pair (.int .i64) (.pair (.int .i64) (.pair (.int .i64) (.int .i64)))))), 56, true⟩,
  some ⟨.struct [(0, 2), (1, 2), (2, 2), (3, 2), (4, 89)], 7, .pair (.int .i64) (.pair (.int .i64) (.pair (.int .i64) (.pair (.int .i64) (.pair (.int .i64) (.pair (.int .i64) (.int .i64)))))), 56, true⟩,
  some ⟨.other, 1, .opq, 8, false⟩,
  some ⟨.struct [(0, 2), (1, 9), (2, 24), (8, 9), (9, 2), (10, 4)], 11, .pair (.int .i64) (.pair (.str) (.pair (.int .i64) (.pair (.int .i64) (.pair (.int .i64) (.pair (.int .i64) (.pair (.int .i64) (.pair (.int .i64) (.pair (.str) (.pair (.int .i64) (.bool)))))))))), 104, true⟩,
  some ⟨.struct [(0, 2), (1, 9), (2, 24), (8, 9), (9, 2), (10, 4)], 11, .pair (.int .i64) (.pair (.str) (.pair (.int .i64) (.pair (.int .i64) (.pair (.int .i64) (.pair (.int .i64) (.pair (.int .i64) (.pair (.int .i64) (.pair (.str) (.pair (.int .i64) (.bool)))))))))), 104, true⟩,
  some ⟨.other, 1, .opq, 8, false⟩,
  some ⟨.ptr 169, 1, .opq, 8, false⟩,
  some ⟨.other, 1, .opq, 8, false⟩,
  none,
  some ⟨.other, 1, .opq, 8, false⟩,
  some ⟨.other, 1, .opq, 8, false⟩,
  some ⟨.other, 1, .opq, 8, false⟩,
  some ⟨.other, 1, .opq, 8, false⟩,
  some ⟨.other, 1, .opq, 8, false⟩,
  some ⟨.other, 1, .opq, 8, false⟩,
  some ⟨.other, 1, .opq, 8, false⟩,
  some ⟨.other, 1, .opq, 8, false⟩,
  some ⟨.other, 1, .opq, 8, false⟩,
  some ⟨.other, 1, .opq, 8, false⟩,
  some ⟨.other, 1, .opq, 8, false⟩,
  some ⟨.other, 1, .opq, 8, false⟩,
  some ⟨.other, 1, .opq, 8, false⟩,
  some ⟨.struct [(0, 2), (1, 25)], 2, .pair (.int .i64) (.slice (.pair (.int .i64) (.pair (.int .i64) (.bool)))), 32, true⟩,
  some ⟨.struct [(0, 2), (1, 25)], 2, .pair (.int .i64) (.slice (.pair (.int .i64) (.pair (.int .i64) (.bool)))), 32, true⟩,
  some ⟨.other, 1, .opq, 8, false⟩,
  some ⟨.other, 1, .opq, 8, false⟩,
  some ⟨.other, 1, .opq, 8, false⟩,
  some ⟨.other, 1, .opq, 8, false⟩,
  some ⟨.other, 1, .opq, 8, false⟩,
  none,
  some ⟨.other, 1, .opq, 8, false⟩,
  some ⟨.other, 1, .opq, 8, false⟩,
  some ⟨.other, 1, .opq, 8, false⟩,
  some ⟨.arr 2 2, 2, .pair (.int .i64) (.int .i64), 16, true⟩,
  some ⟨.struct [(0, 2), (1, 2), (2, 2), (3, 2), (4, 2), (5, 4), (6, 123), (8, 3)], 9, .pair (.int .i64) (.pair (.int .i64) (.pair (.int .i64) (.pair (.int .i64) (.pair (.int .i64) (.pair (.bool) (.pair (.int .i64) (.pair (.int .i64) (.int .i64)))))))), 72, true⟩,
  some ⟨.struct [(0, 2), (1, 2), (2, 2), (3, 2), (4, 2), (5, 4), (6, 123), (8, 3)], 9, .pair (.int .i64) (.pair (.int .i64) (.pair (.int .i64) (.pair (.int .i64) (.pair (.int .i64) (.pair (.bool) (.pair (.int .i64) (.pair (.int .i64) (.int .i64)))))))), 72, true⟩,
  some ⟨.other, 1, .opq, 8, false⟩,
  some ⟨.other, 1, .opq, 8, false⟩,
  some ⟨.other, 1, .opq, 8, false⟩,
  some ⟨.other, 1, .opq, 8, false⟩,
  some ⟨.other, 1, .opq, 8, false⟩,
  some ⟨.other, 1, .opq, 8, false⟩,
  some ⟨.other, 1, .opq, 8, false⟩,
  some ⟨.other, 1, .opq, 8, false⟩,
  some ⟨.other, 1, .opq, 8, false⟩,
  some ⟨.other, 1, .opq, 8, false⟩,
  some ⟨.struct [(0, 2), (1, 2), (2, 48)], 3, .pair (.int .i64) (.pair (.int .i64) (.slice (.int .i64))), 40, true⟩,
  some ⟨.struct [(0, 2), (1, 2), (2, 48)], 3, .pair (.int .i64) (.pair (.int .i64) (.slice (.int .i64))), 40, true⟩,
  none,
  some ⟨.other, 1, .opq, 8, false⟩,
  some ⟨.other, 1, .opq, 8, false⟩,
  some ⟨.other, 1, .opq, 8, false⟩,
  some ⟨.struct [(0, 2), (1, 2), (2, 2)], 3, .pair (.int .i64) (.pair (.int .i64) (.int .i64)), 24, true⟩,
  some ⟨.struct [(0, 2), (1, 2), (2, 2), (3, 2), (4, 142)], 7, .pair (.int .i64) (.pair (.int .i64) (.pair (.int .i64) (.pair (.int .i64) (.pair (.int .i64) (.pair (.int .i64) (.int .i64)))))), 56, true⟩,
  some ⟨.struct [(0, 2), (1, 2), (2, 2), (3, 2), (4, 142)], 7, .pair (.int .i64) (.pair (.int .i64) (.pair (.int .i64) (.pair (.int .i64) (.pair (.int .i64) (.pair (.int .i64) (.int .i64)))))), 56, true⟩,
  some ⟨.other, 1, .opq, 8, false⟩,
  none,
  some ⟨.other, 1, .opq, 8, false⟩,
  some ⟨.other, 1, .opq, 8, false⟩,
  some ⟨.other, 1, .opq, 8, false⟩,
  some ⟨.other, 1, .opq, 8, false⟩,
  some ⟨.other, 1, .opq, 8, false⟩,
  some ⟨.other, 1, .opq, 8, false⟩,
  some ⟨.other, 1, .opq, 8, false⟩,
  some ⟨.other, 1, .opq, 8, false⟩,
  some ⟨.other, 1, .opq, 8, false⟩,
  some ⟨.other, 1, .opq, 8, false⟩,
  some ⟨.ptr 159, 1, .opq, 8, false⟩,
  some ⟨.struct [(0, 22), (1, 9)], 2, .pair (.slice (.int .u8)) (.str), 40, true⟩,
  some ⟨.struct [(0, 22), (1, 9)], 2, .pair (.slice (.int .u8)) (.str), 40, true⟩,
  none,
  none,
  some ⟨.other, 1, .opq, 8, false⟩,
  none,
  some ⟨.other, 1, .opq, 8, false⟩,
  some ⟨.other, 1, .opq, 8, false⟩,
  some ⟨.other, 1, .opq, 8, false⟩,
  some ⟨.int .u64, 1, .int .u64, 8, false⟩,
  some ⟨.struct [(0, 22), (1, 3), (2, 167), (3, 2)], 4, .pair (.slice (.int .u8)) (.pair (.int .i64) (.pair (.int .u64) (.int .i64))), 48, true⟩,
  some ⟨.struct [(0, 22), (1, 3), (2, 167), (3, 2)], 4, .pair (.slice (.int .u8)) (.pair (.int .i64) (.pair (.int .u64) (.int .i64))), 48, true⟩,
  some ⟨.other, 1, .opq, 8, false⟩,
  some ⟨.other, 1, .opq, 8, false⟩,
  some ⟨.slice 9, 1, .slice (.str), 24, false⟩,
  some ⟨.other, 1, .opq, 8, false⟩,
  some ⟨.other, 1, .opq, 8, false⟩,
  some ⟨.other, 1, .opq, 8, false⟩,
  some ⟨.slice 204, 1, .slice (.pair (.int .i64) (.pair (.int .i64) (.pair (.int .i64) (.bool)))), 24, false⟩,
  some ⟨.other, 1, .opq, 8, false⟩,
  some ⟨.struct [(0, 2), (1, 2), (2, 9), (3, 48)], 4, .pair (.int .i64) (.pair (.int .i64) (.pair (.str) (.slice (.int .i64)))), 56, true⟩,
  some ⟨.struct [(0, 2), (1, 2), (2, 9), (3, 48)], 4, .pair (.int .i64) (.pair (.int .i64) (.pair (.str) (.slice (.int .i64)))), 56, true⟩,
  some ⟨.other, 1, .opq, 8, false⟩,
  some ⟨.other, 1, .opq, 8, false⟩,
  some ⟨.other, 1, .opq, 8, false⟩,
  some ⟨.ptr 125, 1, .opq, 8, false⟩,
  some ⟨.other, 1, .opq, 8, false⟩,
  some ⟨.other, 1, .opq, 8, false⟩,
  some ⟨.other, 1, .opq, 8, false⟩,
  some ⟨.other, 1, .opq, 8, false⟩,
  some ⟨.ptr 70, 1, .opq, 8, false⟩,
  some ⟨.other, 1, .opq, 8, false⟩,
  some ⟨.other, 1, .opq, 8, false⟩,
  some ⟨.other, 1, .opq, 8, false⟩,
  some ⟨.other, 1, .opq, 8, false⟩,
  some ⟨.other, 1, .opq, 8, false⟩,
  some ⟨.other, 1, .opq, 8, false⟩,
  some ⟨.other, 1, .opq, 8, false⟩,
  some ⟨.other, 1, .opq, 8, false⟩,
  some ⟨.int .u32, 1, .int .u32, 4, false⟩,
  some ⟨.arr 4 2, 4, .pair (.int .i64) (.pair (.int .i64) (.pair (.int .i64) (.int .i64))), 32, true⟩,
  some ⟨.arr 4 2, 4, .pair (.int .i64) (.pair (.int .i64) (.pair (.int .i64) (.int .i64))), 32, true⟩,
  some ⟨.other, 1, .opq, 8, false⟩,
  none,
  some ⟨.other, 1, .opq, 8, false⟩,
  some ⟨.struct [(0, 2), (1, 2), (2, 2), (3, 4)], 4, .pair (.int .i64) (.pair (.int .i64) (.pair (.int .i64) (.bool))), 32, true⟩,
  some ⟨.struct [(0, 2), (1, 2), (2, 2), (3, 4)], 4, .pair (.int .i64) (.pair (.int .i64) (.pair (.int .i64) (.bool))), 32, true⟩,
  some ⟨.other, 1, .opq, 8, false⟩,
  none,
  some ⟨.other, 1, .opq, 8, false⟩,
  some ⟨.other, 1, .opq, 8, false⟩,
  none,
  some ⟨.other, 1, .opq, 8, false⟩,
  some ⟨.other, 1, .opq, 8, false⟩,
  some ⟨.other, 1, .opq, 8, false⟩,
  some ⟨.other, 1, .opq, 8, false⟩,
  some ⟨.struct [(0, 17), (1, 17), (2, 17), (3, 9)], 4, .pair (.opq) (.pair (.opq) (.pair (.opq) (.str))), 40, true⟩,
  some ⟨.struct [(0, 17), (1, 17), (2, 17), (3, 9)], 4, .pair (.opq) (.pair (.opq) (.pair (.opq) (.str))), 40, true⟩,
  none,
  none,
  none,
  some ⟨.other, 1, .opq, 8, false⟩,
  some ⟨.int .u8, 1, .int .u8, 1, false⟩,
  some ⟨.int .u8, 1, .int .u8, 1, false⟩,
  some ⟨.other, 1, .opq, 8, false⟩,
  some ⟨.ptr 5, 1, .opq, 8, false⟩,
  some ⟨.int .i32, 1, .int .i32, 4, false⟩,
  some ⟨.int .i32, 1, .int .i32, 4, false⟩,
  some ⟨.struct [(0, 12), (1, 12), (2, 197), (3, 220), (4, 5), (5, 5), (6, 221), (7, 222), (8, 223), (9, 224), (10, 225)], 11, .pair (.int .u64) (.pair (.int .u64) (.pair (.int .u32) (.pair (.int .u8) (.pair (.int .u8) (.pair (.int .u8) (.pair (.int .u8) (.pair (.opq) (.pair (.opq) (.pair (.int .i32) (.int .i32)))))))))), 48, true⟩,
  some ⟨.struct [(0, 12), (1, 12), (2, 197), (3, 220), (4, 5), (5, 5), (6, 221), (7, 222), (8, 223), (9, 224), (10, 225)], 11, .pair (.int .u64) (.pair (.int .u64) (.pair (.int .u32) (.pair (.int .u8) (.pair (.int .u8) (.pair (.int .u8) (.pair (.int .u8) (.pair (.opq) (.pair (.opq) (.pair (.int .i32) (.int .i32)))))))))), 48, true⟩,
  some ⟨.other, 1, .opq, 8, false⟩,
  some ⟨.other, 1, .opq, 8, false⟩,
  none,
  some ⟨.other, 1, .opq, 8, false⟩,
  some ⟨.other, 1, .opq, 8, false⟩,
  some ⟨.ptr 235, 1, .opq, 8, false⟩,
  some ⟨.struct [(0, 233), (1, 22)], 2, .pair (.opq) (.slice (.int .u8)), 32, true⟩,
  some ⟨.struct [(0, 233), (1, 22)], 2, .pair (.opq) (.slice (.int .u8)), 32, true⟩,
  some ⟨.other, 1, .opq, 8, false⟩,
  none,
  none,
  none,
  some ⟨.other, 1, .opq, 8, false⟩,
  none,
  some ⟨.other, 1, .opq, 8, false⟩,
  none,
  some ⟨.other, 1, .opq, 8, false⟩,
  some ⟨.other, 1, .opq, 8, false⟩,
  some ⟨.other, 1, .opq, 8, false⟩,
  some ⟨.other, 1, .opq, 8, false⟩]
noncomputable def D : TypeId → Option TD := nthD tds
noncomputable abbrev Pr : Program := Go.Proofs.Try.prog
theorem tdsOk : okTds Pr (nthD tds) 0 tds = true := by kernel_rfl
theorem dok : Dok Pr D := dok_of tdsOk
theorem mixed : Pr.follows .mixedOrders = true := by kernel_rfl
abbrev R1 : Ty := .pair (.int .i64) (.pair (.int .i64) (.bool))
abbrev V1 : Type := Int × Int × Bool
noncomputable abbrev f3 : Func := Go.Proofs.Try.f3
noncomputable abbrev f8 : Func := Go.Proofs.Try.f8
noncomputable abbrev f9 : Func := Go.Proofs.Try.f9
noncomputable abbrev f10 : Func := Go.Proofs.Try.f10
noncomputable abbrev f11 : Func := Go.Proofs.Try.f11
noncomputable abbrev f12 : Func := Go.Proofs.Try.f12
noncomputable abbrev f13 : Func := Go.Proofs.Try.f13
noncomputable abbrev f14 : Func := Go.Proofs.Try.f14
noncomputable abbrev f15 : Func := Go.Proofs.Try.f15
noncomputable abbrev f41 : Func := Go.Proofs.Try.f41
noncomputable abbrev f43 : Func := Go.Proofs.Try.f43
noncomputable abbrev f44 : Func := Go.Proofs.Try.f44
noncomputable abbrev f45 : Func := Go.Proofs.Try.f45
noncomputable abbrev f46 : Func := Go.Proofs.Try.f46
noncomputable abbrev f47 : Func := Go.Proofs.Try.f47
noncomputable abbrev f48 : Func := Go.Proofs.Try.f48
noncomputable abbrev f49 : Func := Go.Proofs.Try.f49
noncomputable abbrev f50 : Func := Go.Proofs.Try.f50
noncomputable abbrev f51 : Func := Go.Proofs.Try.f51
noncomputable abbrev f52 : Func := Go.Proofs.Try.f52
noncomputable abbrev f53 : Func := Go.Proofs.Try.f53
noncomputable abbrev f54 : Func := Go.Proofs.Try.f54
noncomputable abbrev f55 : Func := Go.Proofs.Try.f55
noncomputable abbrev f56 : Func := Go.Proofs.Try.f56
noncomputable abbrev f57 : Func := Go.Proofs.Try.f57
noncomputable abbrev f58 : Func := Go.Proofs.Try.f58
noncomputable abbrev f59 : Func := Go.Proofs.Try.f59
noncomputable abbrev f60 : Func := Go.Proofs.Try.f60
noncomputable abbrev f61 : Func := Go.Proofs.Try.f61
noncomputable abbrev f62 : Func := Go.Proofs.Try.f62
noncomputable abbrev f63 : Func := Go.Proofs.Try.f63
noncomputable abbrev f64 : Func := Go.Proofs.Try.f64
noncomputable abbrev f68 : Func := Go.Proofs.Try.f68
noncomputable abbrev f72 : Func := Go.Proofs.Try.f72
noncomputable abbrev f107 : Func := Go.Proofs.Try.f107
noncomputable abbrev f111 : Func := Go.Proofs.Try.f111
noncomputable abbrev f112 : Func := Go.Proofs.Try.f112
noncomputable abbrev f113 : Func := Go.Proofs.Try.f113
noncomputable abbrev f114 : Func := Go.Proofs.Try.f114
noncomputable abbrev f115 : Func := Go.Proofs.Try.f115
noncomputable abbrev f116 : Func := Go.Proofs.Try.f116
noncomputable abbrev f117 : Func := Go.Proofs.Try.f117
noncomputable abbrev f118 : Func := Go.Proofs.Try.f118
noncomputable abbrev f119 : Func := Go.Proofs.Try.f119
noncomputable abbrev f120 : Func := Go.Proofs.Try.f120
noncomputable abbrev f121 : Func := Go.Proofs.Try.f121
noncomputable abbrev f122 : Func := Go.Proofs.Try.f122
noncomputable abbrev f145 : Func := Go.Proofs.Try.f145
noncomputable abbrev f146 : Func := Go.Proofs.Try.f146
noncomputable abbrev f147 : Func := Go.Proofs.Try.f147
noncomputable abbrev f148 : Func := Go.Proofs.Try.f148
noncomputable abbrev f149 : Func := Go.Proofs.Try.f149
noncomputable abbrev f150 : Func := Go.Proofs.Try.f150
noncomputable abbrev f151 : Func := Go.Proofs.Try.f151
noncomputable abbrev f152 : Func := Go.Proofs.Try.f152
noncomputable abbrev f153 : Func := Go.Proofs.Try.f153
noncomputable abbrev f162 : Func := Go.Proofs.Try.f162
/-! ### loop.example/g00038/spec.l01Source -/
noncomputable def spec_l01Source_v3.E3 : Env := ⟨D, [], [], []⟩
noncomputable def spec_l01Source_v3_l3_step (rec : List Int → Int → List Int → Int → Int → Int → Option ((List Int × List Int × Int × Int × Int × Unit))) (y0 : List Int) (y1 : Int) (y2 : List Int) (y3 : Int) (y4 : Int) (y5 : Int) : Option ((List Int × List Int × Int × Int × Int × Unit)) :=
 let b1 : Bool := decide (y1 < (y0.length : Int))
 bif (b1 && decide (y1 < 64)) then
  let x2 : Int := (IntKind.u64.wrap ((rd (.int .u8) y0 y1)))
  let x3 : Int := (IntKind.u64.wrap ((bits .xor .u64 y4 x2) * 1099511628211))
  bif decide (0 ≤ y1) && decide (y1 < (y0.length : Int)) then
   rec y0 (wrap64 (y1 + 1)) y2 y3 x3 y5
  else none
 else
  some (y0, y2, y3, y4, y5, ())
noncomputable def spec_l01Source_v3_l3 : Nat → List Int → Int → List Int → Int → Int → Int → Option ((List Int × List Int × Int × Int × Int × Unit))
 | 0 => fun _ _ _ _ _ _ => none
 | n + 1 => spec_l01Source_v3_l3_step (spec_l01Source_v3_l3 n)
noncomputable def spec_l01Source_v3_l3.ent : LEntry := ⟨(.cell (.val .imm (.slice (.int .u8))) :: (sk 2 (.cell (.fix (.ptr 7 0)) :: (.cell (.val .bor (.int .i64)) :: (sk 41 []))))), rk 7 ([.val .imm (.slice (.int .u8)), .val .bor (.int .i64), .val .bor (.int .u64), .val .bor (.int .i64)] :: (rk 38 [])), [], [], [⟨some 0, (.cell (.val .imm (.slice (.int .u8))) :: (sk 2 (.cell (.fix (.ptr 7 0)) :: (sk 42 [])))), rk 7 ([.val .imm (.slice (.int .u8)), .val .bor (.int .i64), .val .bor (.int .u64), .val .bor (.int .i64)] :: (rk 38 [])), [], []⟩], fun v => spec_l01Source_v3_l3 K0 v.1 v.2.1 v.2.2.1 v.2.2.2.1 v.2.2.2.2.1 v.2.2.2.2.2.1⟩
theorem spec_l01Source_v3_l3.eq : ∀ rec v, evStep spec_l01Source_v3.E3 (bodyAt 3 f43) spec_l01Source_v3_l3.ent.ins spec_l01Source_v3_l3.ent.rts spec_l01Source_v3_l3.ent.hm spec_l01Source_v3_l3.ent.nl spec_l01Source_v3_l3.ent.xs rec v = spec_l01Source_v3_l3_step (fun c0 c1 c2 c3 c4 c5 => rec (c0, c1, c2, c3, c4, c5, ())) v.1 v.2.1 v.2.2.1 v.2.2.2.1 v.2.2.2.2.1 v.2.2.2.2.2.1 := by intro rec v; kernel_rfl
noncomputable def spec_l01Source_v3.E : Env := ⟨D, [], [], [(3, spec_l01Source_v3_l3.ent)]⟩
noncomputable def spec_l01Source_v3 (a0 : List Int) : Option (List Int × Int × Int × Int × Unit) :=
 (spec_l01Source_v3_l3 K0 a0 0 a0 0 88172645463325252 0).bind fun o4 =>
 let b5 : Bool := decide ((o4.1.length : Int) > 12)
 let l8 : List Int := (bif b5 then o4.2.1 else o4.2.1)
 let x9 : Int := (bif b5 then o4.2.2.1 else o4.2.2.1)
 let x10 : Int := (bif b5 then o4.2.2.2.1 else o4.2.2.2.1)
 let x11 : Int := (bif b5 then 12 else (o4.1.length : Int))
 some (l8, x9, x10, x11, ())
noncomputable def spec_l01Source_v3.ent : Entry := ⟨[false], [.cell (.val .imm (.slice (.int .u8)))], [.box [.val .imm (.slice (.int .u8)), .val .bor (.int .i64), .val .bor (.int .u64), .val .bor (.int .i64)]], [], fun v => spec_l01Source_v3 v.1⟩
theorem spec_l01Source_v3.eq : ∀ v, evFn spec_l01Source_v3.E f43 spec_l01Source_v3.ent.ptrs spec_l01Source_v3.ent.ins spec_l01Source_v3.ent.rets spec_l01Source_v3.ent.outs v = spec_l01Source_v3.ent.f v := by intro v; kernel_rfl
theorem spec_l01Source_v3.fok : ∀ q ∈ ([] : List (Nat × Entry)), EntryOK Pr q.1 q.2 := by intro q hq; simp at hq
theorem spec_l01Source_v3_l3.it : ∀ n v, iter (evStep spec_l01Source_v3.E3 (bodyAt 3 f43) spec_l01Source_v3_l3.ent.ins spec_l01Source_v3_l3.ent.rts spec_l01Source_v3_l3.ent.hm spec_l01Source_v3_l3.ent.nl spec_l01Source_v3_l3.ent.xs) n v = spec_l01Source_v3_l3 n v.1 v.2.1 v.2.2.1 v.2.2.2.1 v.2.2.2.2.1 v.2.2.2.2.2.1 := by
 intro n
 induction n with
 | zero => intro v; rfl
 | succ n ih =>
  intro v
  show (evStep spec_l01Source_v3.E3 (bodyAt 3 f43) spec_l01Source_v3_l3.ent.ins spec_l01Source_v3_l3.ent.rts spec_l01Source_v3_l3.ent.hm spec_l01Source_v3_l3.ent.nl spec_l01Source_v3_l3.ent.xs) (iter (evStep spec_l01Source_v3.E3 (bodyAt 3 f43) spec_l01Source_v3_l3.ent.ins spec_l01Source_v3_l3.ent.rts spec_l01Source_v3_l3.ent.hm spec_l01Source_v3_l3.ent.nl spec_l01Source_v3_l3.ent.xs) n) v = _
  rw [spec_l01Source_v3_l3.eq, show (fun c0 c1 c2 c3 c4 c5 => iter (evStep spec_l01Source_v3.E3 (bodyAt 3 f43) spec_l01Source_v3_l3.ent.ins spec_l01Source_v3_l3.ent.rts spec_l01Source_v3_l3.ent.hm spec_l01Source_v3_l3.ent.nl spec_l01Source_v3_l3.ent.xs) n (c0, c1, c2, c3, c4, c5, ())) = spec_l01Source_v3_l3 n from by funext c0 c1 c2 c3 c4 c5; exact ih _]
  rfl
theorem spec_l01Source_v3_l3.fr : firstRegion (bodyAt 3 f43) = 3 := by kernel_rfl
theorem spec_l01Source_v3_l3.ls : loopsOf (bodyAt 3 f43) = [] := by kernel_rfl
theorem spec_l01Source_v3_l3.lok {E : Env} (hpin : spec_l01Source_v3.E3.pin = E.pin) (hfind : find 3 E.loops = some spec_l01Source_v3_l3.ent) : LoopOK Pr E (bodyAt 3 f43) :=
 loop_of (E1 := spec_l01Source_v3.E3) (EnvOK.of dok spec_l01Source_v3.fok) mixed hpin (by rw [spec_l01Source_v3_l3.fr]; exact hfind) spec_l01Source_v3_l3.ls (by intro l hl; simp at hl) (fun v => (spec_l01Source_v3_l3.it K0 v).symm)
theorem spec_l01Source_v3.ls : loopsOf (bodyOf f43) = [bodyAt 3 f43] := by kernel_rfl
theorem spec_l01Source_v3.ok : EntryOK Pr 43 spec_l01Source_v3.ent :=
 entry_ok (E := spec_l01Source_v3.E) (EnvOK.of dok spec_l01Source_v3.fok) mixed (fn := f43) (by kernel_rfl) (by kernel_rfl) (by decide) spec_l01Source_v3.ls (by intro l hl; simp only [List.mem_singleton] at hl; subst hl; exact spec_l01Source_v3_l3.lok rfl rfl) spec_l01Source_v3.eq
/-! ### (*loop.example/g00038/spec.l01Src).n -/
noncomputable def spec_l01Src_n_v2.E : Env := ⟨D, [0], [], []⟩
noncomputable def spec_l01Src_n_v2 (a0 : List Int) (a1 : Int) (a2 : Int) (a3 : Int) (a4 : Int) : Option (Int × List Int × Int × Int × Int × Unit) :=
 bif decide (a4 ≤ 1) then
  some (0, a0, a1, a2, a3, ())
 else
  let b1 : Bool := decide (a1 < (a0.length : Int))
  let x2 : Int := (IntKind.u64.wrap ((rd (.int .u8) a0 a1)))
  let x5 : Int := (bif b1 then (wrap64 (a1 + 1)) else a1)
  bif (!b1 || (decide (0 ≤ a1) && decide (a1 < (a0.length : Int)))) then
   let x6 : Int := shl .u64 (bif b1 then a2 else a2) 13
   let x7 : Int := (bits .xor .u64 (bif b1 then a2 else a2) x6)
   bif decide (0 ≤ (13 : Int)) then
    let x8 : Int := (bits .xor .u64 x7 (shr .u64 x7 7))
    bif decide (0 ≤ (7 : Int)) then
     let x9 : Int := (bits .xor .u64 x8 (shl .u64 x8 17))
     bif decide (0 ≤ (17 : Int)) then
      let x10 : Int := (IntKind.u64.wrap ((bif b1 then x2 else 0) + shr .u64 x9 20))
      let x11 : Int := (IntKind.u64.wrap ((bif b1 then a4 else a4)))
      let x12 : Int := (wrap64 ((Int.tmod x10 x11)))
      bif (decide (0 ≤ (20 : Int))) && (!(x11 == 0)) then
       some (x12, (bif b1 then a0 else a0), x5, x9, (bif b1 then a3 else a3), ())
      else none
     else none
    else none
   else none
  else none
noncomputable def spec_l01Src_n_v2.ent : Entry := ⟨[true, false], [.agg [.val .imm (.slice (.int .u8)), .val .bor (.int .i64), .val .bor (.int .u64), .val .bor (.int .i64)], .cell (.val .bor (.int .i64))], [.cell (.val .bor (.int .i64))], [.agg [.val .imm (.slice (.int .u8)), .val .bor (.int .i64), .val .bor (.int .u64), .val .bor (.int .i64)]], fun v => spec_l01Src_n_v2 v.1 v.2.1 v.2.2.1 v.2.2.2.1 v.2.2.2.2.1⟩
theorem spec_l01Src_n_v2.eq : ∀ v, evFn spec_l01Src_n_v2.E f46 spec_l01Src_n_v2.ent.ptrs spec_l01Src_n_v2.ent.ins spec_l01Src_n_v2.ent.rets spec_l01Src_n_v2.ent.outs v = spec_l01Src_n_v2.ent.f v := by intro v; kernel_rfl
theorem spec_l01Src_n_v2.fok : ∀ q ∈ ([] : List (Nat × Entry)), EntryOK Pr q.1 q.2 := by intro q hq; simp at hq
theorem spec_l01Src_n_v2.ls : loopsOf (bodyOf f46) = [] := by kernel_rfl
theorem spec_l01Src_n_v2.ok : EntryOK Pr 46 spec_l01Src_n_v2.ent :=
 entry_ok (E := spec_l01Src_n_v2.E) (EnvOK.of dok spec_l01Src_n_v2.fok) mixed (fn := f46) (by kernel_rfl) (by kernel_rfl) (by decide) spec_l01Src_n_v2.ls (by intro l hl; simp at hl) spec_l01Src_n_v2.eq
/-! ### (*loop.example/g00038/spec.l01Src).frames -/
noncomputable def spec_l01Src_frames_v2.E3 : Env := ⟨D, [0], [(46, spec_l01Src_n_v2.ent)], []⟩
noncomputable def spec_l01Src_frames_v2_l3_step (rec : Int → List Int → Int → Int → Int → List Int → Option ((List Int × Int × Int × Int × List Int × Unit))) (y0 : Int) (y1 : List Int) (y2 : Int) (y3 : Int) (y4 : Int) (y5 : List Int) : Option ((List Int × Int × Int × Int × List Int × Unit)) :=
 bif decide (y0 > 0) then
  (spec_l01Src_n_v2 y1 y2 y3 y4 (y5.length : Int)).bind fun r3 =>
  (spec_l01Src_n_v2 r3.2.1 r3.2.2.1 r3.2.2.2.1 r3.2.2.2.2.1 256).bind fun r4 =>
  let l5 : List Int := y5.set r3.1.toNat (IntKind.u8.wrap (r4.1))
  bif decide (0 ≤ r3.1) && decide (r3.1 < (y5.length : Int)) then
   rec (wrap64 (y0 - 1)) r4.2.1 r4.2.2.1 r4.2.2.2.1 r4.2.2.2.2.1 l5
  else none
 else
  some (y1, y2, y3, y4, y5, ())
noncomputable def spec_l01Src_frames_v2_l3 : Nat → Int → List Int → Int → Int → Int → List Int → Option ((List Int × Int × Int × Int × List Int × Unit))
 | 0 => fun _ _ _ _ _ _ => none
 | n + 1 => spec_l01Src_frames_v2_l3_step (spec_l01Src_frames_v2_l3 n)
noncomputable def spec_l01Src_frames_v2_l3.ent : LEntry := ⟨(.cell (.fix (.ptr 0 0)) :: (sk 4 (.cell (.fix (.view 9 0)) :: (.cell (.val .bor (.int .i64)) :: (sk 20 []))))), ([.val .imm (.slice (.int .u8)), .val .bor (.int .i64), .val .bor (.int .u64), .val .bor (.int .i64)] :: (rk 8 ([.val .own (.slice (.int .u8))] :: (rk 17 [])))), [], [], [⟨some 0, (.cell (.fix (.ptr 0 0)) :: (sk 4 (.cell (.fix (.view 9 0)) :: (sk 21 [])))), ([.val .imm (.slice (.int .u8)), .val .bor (.int .i64), .val .bor (.int .u64), .val .bor (.int .i64)] :: (rk 8 ([.val .own (.slice (.int .u8))] :: (rk 17 [])))), [], []⟩], fun v => spec_l01Src_frames_v2_l3 K0 v.1 v.2.1 v.2.2.1 v.2.2.2.1 v.2.2.2.2.1 v.2.2.2.2.2.1⟩
theorem spec_l01Src_frames_v2_l3.eq : ∀ rec v, evStep spec_l01Src_frames_v2.E3 (bodyAt 3 f122) spec_l01Src_frames_v2_l3.ent.ins spec_l01Src_frames_v2_l3.ent.rts spec_l01Src_frames_v2_l3.ent.hm spec_l01Src_frames_v2_l3.ent.nl spec_l01Src_frames_v2_l3.ent.xs rec v = spec_l01Src_frames_v2_l3_step (fun c0 c1 c2 c3 c4 c5 => rec (c0, c1, c2, c3, c4, c5, ())) v.1 v.2.1 v.2.2.1 v.2.2.2.1 v.2.2.2.2.1 v.2.2.2.2.2.1 := by intro rec v; kernel_rfl
noncomputable def spec_l01Src_frames_v2.E : Env := ⟨D, [0], [(46, spec_l01Src_n_v2.ent)], [(3, spec_l01Src_frames_v2_l3.ent)]⟩
noncomputable def spec_l01Src_frames_v2 (a0 : List Int) (a1 : Int) (a2 : Int) (a3 : Int) (a4 : Int) : Option (ByteArray × List Int × Int × Int × Int × Unit) :=
 let l1 : List Int := List.replicate ((wrap64 (a4 * 256)).toNat) (Ty.dflt (.int .u8))
 bif decide (0 ≤ (wrap64 (a4 * 256))) && decide ((wrap64 (a4 * 256)) ≤ (wrap64 (a4 * 256))) && roomy (wrap64 (a4 * 256)) 1 then
  (spec_l01Src_n_v2 a0 a1 a2 a3 6).bind fun r2 =>
  (spec_l01Src_frames_v2_l3 K0 r2.1 r2.2.1 r2.2.2.1 r2.2.2.2.1 r2.2.2.2.2.1 l1).bind fun o6 =>
  some (b2s o6.2.2.2.2.1, o6.1, o6.2.1, o6.2.2.1, o6.2.2.2.1, ())
 else none
noncomputable def spec_l01Src_frames_v2.ent : Entry := ⟨[true, false], [.agg [.val .imm (.slice (.int .u8)), .val .bor (.int .i64), .val .bor (.int .u64), .val .bor (.int .i64)], .cell (.val .bor (.int .i64))], [.cell (.val .bor (.str))], [.agg [.val .imm (.slice (.int .u8)), .val .bor (.int .i64), .val .bor (.int .u64), .val .bor (.int .i64)]], fun v => spec_l01Src_frames_v2 v.1 v.2.1 v.2.2.1 v.2.2.2.1 v.2.2.2.2.1⟩
theorem spec_l01Src_frames_v2.eq : ∀ v, evFn spec_l01Src_frames_v2.E f122 spec_l01Src_frames_v2.ent.ptrs spec_l01Src_frames_v2.ent.ins spec_l01Src_frames_v2.ent.rets spec_l01Src_frames_v2.ent.outs v = spec_l01Src_frames_v2.ent.f v := by intro v; kernel_rfl
theorem spec_l01Src_frames_v2.fok : ∀ q ∈ [((46 : Nat), spec_l01Src_n_v2.ent)], EntryOK Pr q.1 q.2 := by
 intro q hq
 simp only [List.mem_cons, List.mem_nil_iff, or_false] at hq
 rcases hq with rfl
 · exact spec_l01Src_n_v2.ok
theorem spec_l01Src_frames_v2_l3.it : ∀ n v, iter (evStep spec_l01Src_frames_v2.E3 (bodyAt 3 f122) spec_l01Src_frames_v2_l3.ent.ins spec_l01Src_frames_v2_l3.ent.rts spec_l01Src_frames_v2_l3.ent.hm spec_l01Src_frames_v2_l3.ent.nl spec_l01Src_frames_v2_l3.ent.xs) n v = spec_l01Src_frames_v2_l3 n v.1 v.2.1 v.2.2.1 v.2.2.2.1 v.2.2.2.2.1 v.2.2.2.2.2.1 := by
 intro n
 induction n with
 | zero => intro v; rfl
 | succ n ih =>
  intro v
  show (evStep spec_l01Src_frames_v2.E3 (bodyAt 3 f122) spec_l01Src_frames_v2_l3.ent.ins spec_l01Src_frames_v2_l3.ent.rts spec_l01Src_frames_v2_l3.ent.hm spec_l01Src_frames_v2_l3.ent.nl spec_l01Src_frames_v2_l3.ent.xs) (iter (evStep spec_l01Src_frames_v2.E3 (bodyAt 3 f122) spec_l01Src_frames_v2_l3.ent.ins spec_l01Src_frames_v2_l3.ent.rts spec_l01Src_frames_v2_l3.ent.hm spec_l01Src_frames_v2_l3.ent.nl spec_l01Src_frames_v2_l3.ent.xs) n) v = _
  rw [spec_l01Src_frames_v2_l3.eq, show (fun c0 c1 c2 c3 c4 c5 => iter (evStep spec_l01Src_frames_v2.E3 (bodyAt 3 f122) spec_l01Src_frames_v2_l3.ent.ins spec_l01Src_frames_v2_l3.ent.rts spec_l01Src_frames_v2_l3.ent.hm spec_l01Src_frames_v2_l3.ent.nl spec_l01Src_frames_v2_l3.ent.xs) n (c0, c1, c2, c3, c4, c5, ())) = spec_l01Src_frames_v2_l3 n from by funext c0 c1 c2 c3 c4 c5; exact ih _]
  rfl
theorem spec_l01Src_frames_v2_l3.fr : firstRegion (bodyAt 3 f122) = 3 := by kernel_rfl
theorem spec_l01Src_frames_v2_l3.ls : loopsOf (bodyAt 3 f122) = [] := by kernel_rfl
theorem spec_l01Src_frames_v2_l3.lok {E : Env} (hpin : spec_l01Src_frames_v2.E3.pin = E.pin) (hfind : find 3 E.loops = some spec_l01Src_frames_v2_l3.ent) : LoopOK Pr E (bodyAt 3 f122) :=
 loop_of (E1 := spec_l01Src_frames_v2.E3) (EnvOK.of dok spec_l01Src_frames_v2.fok) mixed hpin (by rw [spec_l01Src_frames_v2_l3.fr]; exact hfind) spec_l01Src_frames_v2_l3.ls (by intro l hl; simp at hl) (fun v => (spec_l01Src_frames_v2_l3.it K0 v).symm)
theorem spec_l01Src_frames_v2.ls : loopsOf (bodyOf f122) = [bodyAt 3 f122] := by kernel_rfl
theorem spec_l01Src_frames_v2.ok : EntryOK Pr 122 spec_l01Src_frames_v2.ent :=
 entry_ok (E := spec_l01Src_frames_v2.E) (EnvOK.of dok spec_l01Src_frames_v2.fok) mixed (fn := f122) (by kernel_rfl) (by kernel_rfl) (by decide) spec_l01Src_frames_v2.ls (by intro l hl; simp only [List.mem_singleton] at hl; subst hl; exact spec_l01Src_frames_v2_l3.lok rfl rfl) spec_l01Src_frames_v2.eq
/-! ### loop.example/g00038/spec.l01Word -/
noncomputable def spec_l01Word.E : Env := ⟨D, [], [], []⟩
noncomputable def spec_l01Word (a0 : ByteArray) (a1 : Int) : Option (Int × Unit) :=
 let x1 : Int := (wrap64 (bt a0 (wrap64 (a1 + 1))))
 let x2 : Int := (wrap64 ((wrap64 (bt a0 a1)) + shl .i64 x1 8))
 let x3 : Int := (wrap64 (bt a0 (wrap64 (a1 + 2))))
 let x4 : Int := (wrap64 (x2 + shl .i64 x3 16))
 let x5 : Int := (wrap64 (bt a0 (wrap64 (a1 + 3))))
 let x6 : Int := (wrap64 (x4 + shl .i64 x5 24))
 bif (decide (0 ≤ a1) && decide (a1 < (a0.size : Int))) && ((decide (0 ≤ (wrap64 (a1 + 1))) && decide ((wrap64 (a1 + 1)) < (a0.size : Int))) && ((decide (0 ≤ (8 : Int))) && ((decide (0 ≤ (wrap64 (a1 + 2))) && decide ((wrap64 (a1 + 2)) < (a0.size : Int))) && ((decide (0 ≤ (16 : Int))) && ((decide (0 ≤ (wrap64 (a1 + 3))) && decide ((wrap64 (a1 + 3)) < (a0.size : Int))) && (decide (0 ≤ (24 : Int)))))))) then
  some (x6, ())
 else none
noncomputable def spec_l01Word.ent : Entry := ⟨[false, false], [.cell (.val .bor (.str)), .cell (.val .bor (.int .i64))], [.cell (.val .bor (.int .i64))], [], fun v => spec_l01Word v.1 v.2.1⟩
theorem spec_l01Word.eq : ∀ v, evFn spec_l01Word.E f51 spec_l01Word.ent.ptrs spec_l01Word.ent.ins spec_l01Word.ent.rets spec_l01Word.ent.outs v = spec_l01Word.ent.f v := by intro v; kernel_rfl
theorem spec_l01Word.fok : ∀ q ∈ ([] : List (Nat × Entry)), EntryOK Pr q.1 q.2 := by intro q hq; simp at hq
theorem spec_l01Word.ls : loopsOf (bodyOf f51) = [] := by kernel_rfl
theorem spec_l01Word.ok : EntryOK Pr 51 spec_l01Word.ent :=
 entry_ok (E := spec_l01Word.E) (EnvOK.of dok spec_l01Word.fok) mixed (fn := f51) (by kernel_rfl) (by kernel_rfl) (by decide) spec_l01Word.ls (by intro l hl; simp at hl) spec_l01Word.eq
/-! ### loop.example/g00038/spec.GetWord -/
noncomputable def spec_GetWord.E : Env := ⟨D, [], [(51, spec_l01Word.ent)], []⟩
noncomputable def spec_GetWord (a0 : ByteArray) (a1 : Int) : Option (Bool × Int × Unit) :=
 let b1 : Bool := decide ((a0.size : Int) > 65536)
 let x2 : Int := (wrap64 ((a0.size : Int) - 4))
 let b3 : Bool := ((b1 || decide (a1 < 0)) || decide (a1 > x2))
 bif b3 then
  some (false, 0, ())
 else
  (spec_l01Word a0 a1).bind fun r4 =>
  some (true, r4.1, ())
noncomputable def spec_GetWord.ent : Entry := ⟨[false, false], [.cell (.val .bor (.str)), .cell (.val .bor (.int .i64))], [.agg [.val .bor (.bool), .val .bor (.int .i64)]], [], fun v => spec_GetWord v.1 v.2.1⟩
theorem spec_GetWord.eq : ∀ v, evFn spec_GetWord.E f12 spec_GetWord.ent.ptrs spec_GetWord.ent.ins spec_GetWord.ent.rets spec_GetWord.ent.outs v = spec_GetWord.ent.f v := by intro v; kernel_rfl
theorem spec_GetWord.fok : ∀ q ∈ [((51 : Nat), spec_l01Word.ent)], EntryOK Pr q.1 q.2 := by
 intro q hq
 simp only [List.mem_cons, List.mem_nil_iff, or_false] at hq
 rcases hq with rfl
 · exact spec_l01Word.ok
theorem spec_GetWord.ls : loopsOf (bodyOf f12) = [] := by kernel_rfl
theorem spec_GetWord.ok : EntryOK Pr 12 spec_GetWord.ent :=
 entry_ok (E := spec_GetWord.E) (EnvOK.of dok spec_GetWord.fok) mixed (fn := f12) (by kernel_rfl) (by kernel_rfl) (by decide) spec_GetWord.ls (by intro l hl; simp at hl) spec_GetWord.eq
/-! ### loop.example/g00038/spec.l01Mod -/
noncomputable def spec_l01Mod.E : Env := ⟨D, [], [], []⟩
noncomputable def spec_l01Mod (a0 : Int) (a1 : Int) : Option (Int × Unit) :=
 bif !(a1 == 0) then
  let b1 : Bool := decide ((Int.tmod a0 a1) < 0)
  let x2 : Int := (wrap64 ((Int.tmod a0 a1) + a1))
  let x3 : Int := (bif b1 then x2 else (Int.tmod a0 a1))
  some (x3, ())
 else none
noncomputable def spec_l01Mod.ent : Entry := ⟨[false, false], [.cell (.val .bor (.int .i64)), .cell (.val .bor (.int .i64))], [.cell (.val .bor (.int .i64))], [], fun v => spec_l01Mod v.1 v.2.1⟩
theorem spec_l01Mod.eq : ∀ v, evFn spec_l01Mod.E f62 spec_l01Mod.ent.ptrs spec_l01Mod.ent.ins spec_l01Mod.ent.rets spec_l01Mod.ent.outs v = spec_l01Mod.ent.f v := by intro v; kernel_rfl
theorem spec_l01Mod.fok : ∀ q ∈ ([] : List (Nat × Entry)), EntryOK Pr q.1 q.2 := by intro q hq; simp at hq
theorem spec_l01Mod.ls : loopsOf (bodyOf f62) = [] := by kernel_rfl
theorem spec_l01Mod.ok : EntryOK Pr 62 spec_l01Mod.ent :=
 entry_ok (E := spec_l01Mod.E) (EnvOK.of dok spec_l01Mod.fok) mixed (fn := f62) (by kernel_rfl) (by kernel_rfl) (by decide) spec_l01Mod.ls (by intro l hl; simp at hl) spec_l01Mod.eq
/-! ### loop.example/g00038/spec.Word -/
noncomputable def spec_Word.E : Env := ⟨D, [], [(62, spec_l01Mod.ent)], []⟩
noncomputable def spec_Word (a0 : Int) : Option (Int × Unit) :=
 (spec_l01Mod a0 4294967296).bind fun r1 =>
 some (r1.1, ())
noncomputable def spec_Word.ent : Entry := ⟨[false], [.cell (.val .bor (.int .i64))], [.cell (.val .bor (.int .i64))], [], fun v => spec_Word v.1⟩
theorem spec_Word.eq : ∀ v, evFn spec_Word.E f145 spec_Word.ent.ptrs spec_Word.ent.ins spec_Word.ent.rets spec_Word.ent.outs v = spec_Word.ent.f v := by intro v; kernel_rfl
theorem spec_Word.fok : ∀ q ∈ [((62 : Nat), spec_l01Mod.ent)], EntryOK Pr q.1 q.2 := by
 intro q hq
 simp only [List.mem_cons, List.mem_nil_iff, or_false] at hq
 rcases hq with rfl
 · exact spec_l01Mod.ok
theorem spec_Word.ls : loopsOf (bodyOf f145) = [] := by kernel_rfl
theorem spec_Word.ok : EntryOK Pr 145 spec_Word.ent :=
 entry_ok (E := spec_Word.E) (EnvOK.of dok spec_Word.fok) mixed (fn := f145) (by kernel_rfl) (by kernel_rfl) (by decide) spec_Word.ls (by intro l hl; simp at hl) spec_Word.eq
/-! ### loop.example/g00038/spec.PutWord -/
noncomputable def spec_PutWord.E : Env := ⟨D, [], [(145, spec_Word.ent)], []⟩
noncomputable def spec_PutWord (a0 : Int) : Option (ByteArray × Unit) :=
 (spec_Word a0).bind fun r1 =>
 let x2 : Int := (IntKind.u8.wrap (shr .i64 r1.1 8))
 let x3 : Int := (IntKind.u8.wrap (shr .i64 r1.1 16))
 let x4 : Int := (IntKind.u8.wrap (shr .i64 r1.1 24))
 let l5 : List Int := [(IntKind.u8.wrap (r1.1)), x2, x3, x4]
 bif (decide (0 ≤ (8 : Int))) && ((decide (0 ≤ (16 : Int))) && (decide (0 ≤ (24 : Int)))) then
  some (b2s l5, ())
 else none
noncomputable def spec_PutWord.ent : Entry := ⟨[false], [.cell (.val .bor (.int .i64))], [.cell (.val .bor (.str))], [], fun v => spec_PutWord v.1⟩
theorem spec_PutWord.eq : ∀ v, evFn spec_PutWord.E f107 spec_PutWord.ent.ptrs spec_PutWord.ent.ins spec_PutWord.ent.rets spec_PutWord.ent.outs v = spec_PutWord.ent.f v := by intro v; kernel_rfl
theorem spec_PutWord.fok : ∀ q ∈ [((145 : Nat), spec_Word.ent)], EntryOK Pr q.1 q.2 := by
 intro q hq
 simp only [List.mem_cons, List.mem_nil_iff, or_false] at hq
 rcases hq with rfl
 · exact spec_Word.ok
theorem spec_PutWord.ls : loopsOf (bodyOf f107) = [] := by kernel_rfl
theorem spec_PutWord.ok : EntryOK Pr 107 spec_PutWord.ent :=
 entry_ok (E := spec_PutWord.E) (EnvOK.of dok spec_PutWord.fok) mixed (fn := f107) (by kernel_rfl) (by kernel_rfl) (by decide) spec_PutWord.ls (by intro l hl; simp at hl) spec_PutWord.eq
/-! ### loop.example/g00038/spec.SetWord -/
noncomputable def spec_SetWord.E : Env := ⟨D, [], [(12, spec_GetWord.ent), (107, spec_PutWord.ent)], []⟩
noncomputable def spec_SetWord (a0 : ByteArray) (a1 : Int) (a2 : Int) : Option (ByteArray × Unit) :=
 (spec_GetWord a0 a1).bind fun r1 =>
 bif !r1.1 then
  some ((⟨#[]⟩ : ByteArray), ())
 else
  (spec_PutWord a2).bind fun r2 =>
  let s3 : ByteArray := ((a0.extract 0 a1.toNat) ++ r2.1)
  let s4 : ByteArray := a0.extract (wrap64 (a1 + 4)).toNat a0.size
  bif (decide (0 ≤ a1) && decide (a1 ≤ (a0.size : Int))) && ((joins (a0.extract 0 a1.toNat) r2.1) && ((decide (0 ≤ (wrap64 (a1 + 4))) && decide ((wrap64 (a1 + 4)) ≤ (a0.size : Int))) && (joins s3 s4))) then
   some ((s3 ++ s4), ())
  else none
noncomputable def spec_SetWord.ent : Entry := ⟨[false, false, false], [.cell (.val .bor (.str)), .cell (.val .bor (.int .i64)), .cell (.val .bor (.int .i64))], [.cell (.val .bor (.str))], [], fun v => spec_SetWord v.1 v.2.1 v.2.2.1⟩
theorem spec_SetWord.eq : ∀ v, evFn spec_SetWord.E f41 spec_SetWord.ent.ptrs spec_SetWord.ent.ins spec_SetWord.ent.rets spec_SetWord.ent.outs v = spec_SetWord.ent.f v := by intro v; kernel_rfl
theorem spec_SetWord.fok : ∀ q ∈ [((12 : Nat), spec_GetWord.ent), ((107 : Nat), spec_PutWord.ent)], EntryOK Pr q.1 q.2 := by
 intro q hq
 simp only [List.mem_cons, List.mem_nil_iff, or_false] at hq
 rcases hq with rfl | rfl
 · exact spec_GetWord.ok
 · exact spec_PutWord.ok
theorem spec_SetWord.ls : loopsOf (bodyOf f41) = [] := by kernel_rfl
theorem spec_SetWord.ok : EntryOK Pr 41 spec_SetWord.ent :=
 entry_ok (E := spec_SetWord.E) (EnvOK.of dok spec_SetWord.fok) mixed (fn := f41) (by kernel_rfl) (by kernel_rfl) (by decide) spec_SetWord.ls (by intro l hl; simp at hl) spec_SetWord.eq
/-! ### (*loop.example/g00038/spec.l01Src).queueIn -/
noncomputable def spec_l01Src_queueIn_v2.E : Env := ⟨D, [0], [(46, spec_l01Src_n_v2.ent), (122, spec_l01Src_frames_v2.ent), (41, spec_SetWord.ent)], []⟩
noncomputable def spec_l01Src_queueIn_v2 (a0 : List Int) (a1 : Int) (a2 : Int) (a3 : Int) : Option (ByteArray × Int × Int × Int × Int × Int × Int × List Int × Int × Int × Int × Unit) :=
 let l1 : List Int := ([4, 8, 2, 1] : List Int)
 (spec_l01Src_n_v2 a0 a1 a2 a3 4).bind fun r2 =>
 bif decide (0 ≤ r2.1) && decide (r2.1 < (l1.length : Int)) then
  let l3 : List Int := ([0, 3, 65535] : List Int)
  (spec_l01Src_n_v2 r2.2.1 r2.2.2.1 r2.2.2.2.1 r2.2.2.2.2.1 3).bind fun r4 =>
  bif decide (0 ≤ r4.1) && decide (r4.1 < (l3.length : Int)) then
   let l5 : List Int := ([0, 5, 65535] : List Int)
   (spec_l01Src_n_v2 r4.2.1 r4.2.2.1 r4.2.2.2.1 r4.2.2.2.2.1 3).bind fun r6 =>
   bif decide (0 ≤ r6.1) && decide (r6.1 < (l5.length : Int)) then
    (spec_l01Src_frames_v2 r6.2.1 r6.2.2.1 r6.2.2.2.1 r6.2.2.2.2.1 5).bind fun r7 =>
    (spec_l01Src_n_v2 r7.2.1 r7.2.2.1 r7.2.2.2.1 r7.2.2.2.2.1 2).bind fun r8 =>
    (spec_SetWord r7.1 128 r8.1).bind fun r9 =>
    (spec_SetWord r9.1 132 (rd (.int .i64) l3 r4.1)).bind fun r10 =>
    some (r10.1, (rd (.int .i64) l1 r2.1), 0, 128, 176, (rd (.int .i64) l3 r4.1), (rd (.int .i64) l5 r6.1), r8.2.1, r8.2.2.1, r8.2.2.2.1, r8.2.2.2.2.1, ())
   else none
  else none
 else none
noncomputable def spec_l01Src_queueIn_v2.ent : Entry := ⟨[true], [.agg [.val .imm (.slice (.int .u8)), .val .bor (.int .i64), .val .bor (.int .u64), .val .bor (.int .i64)]], [.cell (.val .bor (.str)), .agg [.val .bor (.int .i64), .val .bor (.int .i64), .val .bor (.int .i64), .val .bor (.int .i64), .val .bor (.int .i64), .val .bor (.int .i64)]], [.agg [.val .imm (.slice (.int .u8)), .val .bor (.int .i64), .val .bor (.int .u64), .val .bor (.int .i64)]], fun v => spec_l01Src_queueIn_v2 v.1 v.2.1 v.2.2.1 v.2.2.2.1⟩
theorem spec_l01Src_queueIn_v2.eq : ∀ v, evFn spec_l01Src_queueIn_v2.E f146 spec_l01Src_queueIn_v2.ent.ptrs spec_l01Src_queueIn_v2.ent.ins spec_l01Src_queueIn_v2.ent.rets spec_l01Src_queueIn_v2.ent.outs v = spec_l01Src_queueIn_v2.ent.f v := by intro v; kernel_rfl
theorem spec_l01Src_queueIn_v2.fok : ∀ q ∈ [((46 : Nat), spec_l01Src_n_v2.ent), ((122 : Nat), spec_l01Src_frames_v2.ent), ((41 : Nat), spec_SetWord.ent)], EntryOK Pr q.1 q.2 := by
 intro q hq
 simp only [List.mem_cons, List.mem_nil_iff, or_false] at hq
 rcases hq with rfl | rfl | rfl
 · exact spec_l01Src_n_v2.ok
 · exact spec_l01Src_frames_v2.ok
 · exact spec_SetWord.ok
theorem spec_l01Src_queueIn_v2.ls : loopsOf (bodyOf f146) = [] := by kernel_rfl
theorem spec_l01Src_queueIn_v2.ok : EntryOK Pr 146 spec_l01Src_queueIn_v2.ent :=
 entry_ok (E := spec_l01Src_queueIn_v2.E) (EnvOK.of dok spec_l01Src_queueIn_v2.fok) mixed (fn := f146) (by kernel_rfl) (by kernel_rfl) (by decide) spec_l01Src_queueIn_v2.ls (by intro l hl; simp at hl) spec_l01Src_queueIn_v2.eq
/-! ### loop.example/g00038/spec.l01Min -/
noncomputable def spec_l01Min.E : Env := ⟨D, [], [], []⟩
noncomputable def spec_l01Min (a0 : Int) (a1 : Int) : Option (Int × Unit) :=
 bif decide (a0 < a1) then
  some (a0, ())
 else
  some (a1, ())
noncomputable def spec_l01Min.ent : Entry := ⟨[false, false], [.cell (.val .bor (.int .i64)), .cell (.val .bor (.int .i64))], [.cell (.val .bor (.int .i64))], [], fun v => spec_l01Min v.1 v.2.1⟩
theorem spec_l01Min.eq : ∀ v, evFn spec_l01Min.E f147 spec_l01Min.ent.ptrs spec_l01Min.ent.ins spec_l01Min.ent.rets spec_l01Min.ent.outs v = spec_l01Min.ent.f v := by intro v; kernel_rfl
theorem spec_l01Min.fok : ∀ q ∈ ([] : List (Nat × Entry)), EntryOK Pr q.1 q.2 := by intro q hq; simp at hq
theorem spec_l01Min.ls : loopsOf (bodyOf f147) = [] := by kernel_rfl
theorem spec_l01Min.ok : EntryOK Pr 147 spec_l01Min.ent :=
 entry_ok (E := spec_l01Min.E) (EnvOK.of dok spec_l01Min.fok) mixed (fn := f147) (by kernel_rfl) (by kernel_rfl) (by decide) spec_l01Min.ls (by intro l hl; simp at hl) spec_l01Min.eq
/-! ### (*loop.example/g00038/spec.l01Src).one -/
noncomputable def spec_l01Src_one_v2.E : Env := ⟨D, [0], [(46, spec_l01Src_n_v2.ent)], []⟩
noncomputable def spec_l01Src_one_v2 (a0 : List Int) (a1 : Int) (a2 : Int) (a3 : Int) (a4 : Int) : Option (Bool × List Int × Int × Int × Int × Unit) :=
 (spec_l01Src_n_v2 a0 a1 a2 a3 a4).bind fun r1 =>
 some ((r1.1 == 0), r1.2.1, r1.2.2.1, r1.2.2.2.1, r1.2.2.2.2.1, ())
noncomputable def spec_l01Src_one_v2.ent : Entry := ⟨[true, false], [.agg [.val .imm (.slice (.int .u8)), .val .bor (.int .i64), .val .bor (.int .u64), .val .bor (.int .i64)], .cell (.val .bor (.int .i64))], [.cell (.val .bor (.bool))], [.agg [.val .imm (.slice (.int .u8)), .val .bor (.int .i64), .val .bor (.int .u64), .val .bor (.int .i64)]], fun v => spec_l01Src_one_v2 v.1 v.2.1 v.2.2.1 v.2.2.2.1 v.2.2.2.2.1⟩
theorem spec_l01Src_one_v2.eq : ∀ v, evFn spec_l01Src_one_v2.E f47 spec_l01Src_one_v2.ent.ptrs spec_l01Src_one_v2.ent.ins spec_l01Src_one_v2.ent.rets spec_l01Src_one_v2.ent.outs v = spec_l01Src_one_v2.ent.f v := by intro v; kernel_rfl
theorem spec_l01Src_one_v2.fok : ∀ q ∈ [((46 : Nat), spec_l01Src_n_v2.ent)], EntryOK Pr q.1 q.2 := by
 intro q hq
 simp only [List.mem_cons, List.mem_nil_iff, or_false] at hq
 rcases hq with rfl
 · exact spec_l01Src_n_v2.ok
theorem spec_l01Src_one_v2.ls : loopsOf (bodyOf f47) = [] := by kernel_rfl
theorem spec_l01Src_one_v2.ok : EntryOK Pr 47 spec_l01Src_one_v2.ent :=
 entry_ok (E := spec_l01Src_one_v2.E) (EnvOK.of dok spec_l01Src_one_v2.fok) mixed (fn := f47) (by kernel_rfl) (by kernel_rfl) (by decide) spec_l01Src_one_v2.ls (by intro l hl; simp at hl) spec_l01Src_one_v2.eq
/-! ### (*loop.example/g00038/spec.l01Src).bufs -/
noncomputable def spec_l01Src_bufs_v2.E3 : Env := ⟨D, [0], [(46, spec_l01Src_n_v2.ent), (47, spec_l01Src_one_v2.ent)], []⟩
noncomputable def spec_l01Src_bufs_v2_l3_step (rec : Int → Int → List Int → Int → Int → Int → List V1 → Option ((List Int × Int × Int × Int × List V1 × Unit))) (y0 : Int) (y1 : Int) (y2 : List Int) (y3 : Int) (y4 : Int) (y5 : Int) (y6 : List V1) : Option ((List Int × Int × Int × Int × List V1 × Unit)) :=
 bif decide (y1 < y0) then
  let r1 : Int × List Int × Int × Int × Int × Unit := (spec_l01Src_n_v2 y2 y3 y4 y5 11).getD (0, [], 0, 0, 0, ())
  let x2 : Int := (wrap64 ((64 : Int) * r1.1))
  let x3 : Int := (wrap64 ((512 : Int) + x2))
  let l4 : List Int := ([0, 1, 16, 20, 64, 65] : List Int)
  let r5 : Int × List Int × Int × Int × Int × Unit := (spec_l01Src_n_v2 r1.2.1 r1.2.2.1 r1.2.2.2.1 r1.2.2.2.2.1 6).getD (0, [], 0, 0, 0, ())
  let r6 : Bool × List Int × Int × Int × Int × Unit := (spec_l01Src_one_v2 r5.2.1 r5.2.2.1 r5.2.2.2.1 r5.2.2.2.2.1 2).getD (false, [], 0, 0, 0, ())
  let l7 : List Int := (bif decide (y1 > 0) then r6.2.1 else r5.2.1)
  let x8 : Int := (bif decide (y1 > 0) then r6.2.2.1 else r5.2.2.1)
  let x9 : Int := (bif decide (y1 > 0) then r6.2.2.2.1 else r5.2.2.2.1)
  let x10 : Int := (bif decide (y1 > 0) then r6.2.2.2.2.1 else r5.2.2.2.2.1)
  let b11 : Bool := (decide (y1 > 0) && r6.1)
  bif ((spec_l01Src_n_v2 y2 y3 y4 y5 11).isSome) && (((spec_l01Src_n_v2 r1.2.1 r1.2.2.1 r1.2.2.2.1 r1.2.2.2.2.1 6).isSome) && ((decide (0 ≤ r5.1) && decide (r5.1 < (l4.length : Int))) && (!(decide (y1 > 0)) || ((spec_l01Src_one_v2 r5.2.1 r5.2.2.1 r5.2.2.2.1 r5.2.2.2.2.1 2).isSome)))) then
   let b12 : Bool := decide ((y6.length : Int) > 0)
   let x13 : Int := (wrap64 ((y6.length : Int) - 1))
   let e14 : V1 := rd R1 y6 x13
   let r15 : Bool × List Int × Int × Int × Int × Unit := (spec_l01Src_one_v2 l7 x8 x9 x10 10).getD (false, [], 0, 0, 0, ())
   let l16 : List Int := (bif (b12 && e14.2.2) then r15.2.1 else l7)
   let x17 : Int := (bif (b12 && e14.2.2) then r15.2.2.1 else x8)
   let x18 : Int := (bif (b12 && e14.2.2) then r15.2.2.2.1 else x9)
   let x19 : Int := (bif (b12 && e14.2.2) then r15.2.2.2.2.1 else x10)
   let b20 : Bool := ((b12 && e14.2.2) && !r15.1)
   bif (!b12 || (decide (0 ≤ x13) && decide (x13 < (y6.length : Int)))) && (!(b12 && e14.2.2) || ((spec_l01Src_one_v2 l7 x8 x9 x10 10).isSome)) then
    let x21 : Int := (bif b20 then y0 else y0)
    let x22 : Int := (bif b20 then y1 else y1)
    let x26 : Int := (bif b20 then x3 else x3)
    let x28 : Int := (bif b20 then (rd (.int .i64) l4 r5.1) else (rd (.int .i64) l4 r5.1))
    let l35 : List Int := (bif b20 then l16 else l16)
    let x36 : Int := (bif b20 then x17 else x17)
    let x37 : Int := (bif b20 then x18 else x18)
    let x38 : Int := (bif b20 then x19 else x19)
    let l39 : List V1 := (bif b20 then y6 else y6)
    (spec_l01Src_one_v2 l35 x36 x37 x38 25).bind fun r41 =>
    let l42 : List Int := ([1270, 4000, 4294967295, 1280] : List Int)
    let r43 : Int × List Int × Int × Int × Int × Unit := (spec_l01Src_n_v2 r41.2.1 r41.2.2.1 r41.2.2.2.1 r41.2.2.2.2.1 4).getD (0, [], 0, 0, 0, ())
    let x44 : Int := (rd (.int .i64) l42 r43.1)
    let x45 : Int := (bif r41.1 then x21 else x21)
    let x46 : Int := (bif r41.1 then x22 else x22)
    let x52 : Int := (bif r41.1 then x28 else x28)
    let l60 : List Int := (bif r41.1 then r43.2.1 else r41.2.1)
    let x61 : Int := (bif r41.1 then r43.2.2.1 else r41.2.2.1)
    let x62 : Int := (bif r41.1 then r43.2.2.2.1 else r41.2.2.2.1)
    let x63 : Int := (bif r41.1 then r43.2.2.2.2.1 else r41.2.2.2.2.1)
    let l64 : List V1 := (bif r41.1 then l39 else l39)
    let x65 : Int := (bif r41.1 then x44 else x26)
    let b66 : Bool := (bif r41.1 then (b20 || b11) else (b20 || b11))
    bif (!r41.1 || ((spec_l01Src_n_v2 r41.2.1 r41.2.2.1 r41.2.2.2.1 r41.2.2.2.2.1 4).isSome)) && (!r41.1 || (decide (0 ≤ r43.1) && decide (r43.1 < (l42.length : Int)))) then
     let l68 : List V1 := (l64 ++ [(x65, x52, b66)])
     bif roomy ((l64.length : Int) + ([(x65, x52, b66)].length : Int)) 24 then
      rec x45 (wrap64 (x46 + 1)) l60 x61 x62 x63 l68
     else none
    else none
   else none
  else none
 else
  some (y2, y3, y4, y5, y6, ())
noncomputable def spec_l01Src_bufs_v2_l3 : Nat → Int → Int → List Int → Int → Int → Int → List V1 → Option ((List Int × Int × Int × Int × List V1 × Unit))
 | 0 => fun _ _ _ _ _ _ _ => none
 | n + 1 => spec_l01Src_bufs_v2_l3_step (spec_l01Src_bufs_v2_l3 n)
noncomputable def spec_l01Src_bufs_v2_l3.ent : LEntry := ⟨(.cell (.fix (.ptr 0 0)) :: (.cell (.val .bor (.int .i64)) :: (sk 3 (.cell (.fix (.view 5 0)) :: (.cell (.val .bor (.int .i64)) :: (sk 54 [])))))), ([.val .imm (.slice (.int .u8)), .val .bor (.int .i64), .val .bor (.int .u64), .val .bor (.int .i64)] :: (rk 4 ([.val .own (.slice R1)] :: (rk 55 [])))), [(5, true, .pair (.int .i64) (.pair (.int .i64) (.bool)))], [], [⟨some 0, (.cell (.fix (.ptr 0 0)) :: (sk 4 (.cell (.fix (.view 5 0)) :: (sk 55 [])))), ([.val .imm (.slice (.int .u8)), .val .bor (.int .i64), .val .bor (.int .u64), .val .bor (.int .i64)] :: (rk 4 ([.val .own (.slice R1)] :: (rk 55 [])))), [], []⟩], fun v => spec_l01Src_bufs_v2_l3 K0 v.1 v.2.1 v.2.2.1 v.2.2.2.1 v.2.2.2.2.1 v.2.2.2.2.2.1 v.2.2.2.2.2.2.1⟩
theorem spec_l01Src_bufs_v2_l3.eq : ∀ rec v, evStep spec_l01Src_bufs_v2.E3 (bodyAt 3 f45) spec_l01Src_bufs_v2_l3.ent.ins spec_l01Src_bufs_v2_l3.ent.rts spec_l01Src_bufs_v2_l3.ent.hm spec_l01Src_bufs_v2_l3.ent.nl spec_l01Src_bufs_v2_l3.ent.xs rec v = spec_l01Src_bufs_v2_l3_step (fun c0 c1 c2 c3 c4 c5 c6 => rec (c0, c1, c2, c3, c4, c5, c6, ())) v.1 v.2.1 v.2.2.1 v.2.2.2.1 v.2.2.2.2.1 v.2.2.2.2.2.1 v.2.2.2.2.2.2.1 := by intro rec v; kernel_rfl
noncomputable def spec_l01Src_bufs_v2.E : Env := ⟨D, [0], [(46, spec_l01Src_n_v2.ent), (47, spec_l01Src_one_v2.ent)], [(3, spec_l01Src_bufs_v2_l3.ent)]⟩
noncomputable def spec_l01Src_bufs_v2 (a0 : List Int) (a1 : Int) (a2 : Int) (a3 : Int) (a4 : Int) : Option (List V1 × List Int × Int × Int × Int × Unit) :=
 (spec_l01Src_bufs_v2_l3 K0 a4 0 a0 a1 a2 a3 []).bind fun o69 =>
 some (o69.2.2.2.2.1, o69.1, o69.2.1, o69.2.2.1, o69.2.2.2.1, ())
noncomputable def spec_l01Src_bufs_v2.ent : Entry := ⟨[true, false], [.agg [.val .imm (.slice (.int .u8)), .val .bor (.int .i64), .val .bor (.int .u64), .val .bor (.int .i64)], .cell (.val .bor (.int .i64))], [.cell (.val .own (.slice R1))], [.agg [.val .imm (.slice (.int .u8)), .val .bor (.int .i64), .val .bor (.int .u64), .val .bor (.int .i64)]], fun v => spec_l01Src_bufs_v2 v.1 v.2.1 v.2.2.1 v.2.2.2.1 v.2.2.2.2.1⟩
theorem spec_l01Src_bufs_v2.eq : ∀ v, evFn spec_l01Src_bufs_v2.E f45 spec_l01Src_bufs_v2.ent.ptrs spec_l01Src_bufs_v2.ent.ins spec_l01Src_bufs_v2.ent.rets spec_l01Src_bufs_v2.ent.outs v = spec_l01Src_bufs_v2.ent.f v := by intro v; kernel_rfl
theorem spec_l01Src_bufs_v2.fok : ∀ q ∈ [((46 : Nat), spec_l01Src_n_v2.ent), ((47 : Nat), spec_l01Src_one_v2.ent)], EntryOK Pr q.1 q.2 := by
 intro q hq
 simp only [List.mem_cons, List.mem_nil_iff, or_false] at hq
 rcases hq with rfl | rfl
 · exact spec_l01Src_n_v2.ok
 · exact spec_l01Src_one_v2.ok
theorem spec_l01Src_bufs_v2_l3.it : ∀ n v, iter (evStep spec_l01Src_bufs_v2.E3 (bodyAt 3 f45) spec_l01Src_bufs_v2_l3.ent.ins spec_l01Src_bufs_v2_l3.ent.rts spec_l01Src_bufs_v2_l3.ent.hm spec_l01Src_bufs_v2_l3.ent.nl spec_l01Src_bufs_v2_l3.ent.xs) n v = spec_l01Src_bufs_v2_l3 n v.1 v.2.1 v.2.2.1 v.2.2.2.1 v.2.2.2.2.1 v.2.2.2.2.2.1 v.2.2.2.2.2.2.1 := by
 intro n
 induction n with
 | zero => intro v; rfl
 | succ n ih =>
  intro v
  show (evStep spec_l01Src_bufs_v2.E3 (bodyAt 3 f45) spec_l01Src_bufs_v2_l3.ent.ins spec_l01Src_bufs_v2_l3.ent.rts spec_l01Src_bufs_v2_l3.ent.hm spec_l01Src_bufs_v2_l3.ent.nl spec_l01Src_bufs_v2_l3.ent.xs) (iter (evStep spec_l01Src_bufs_v2.E3 (bodyAt 3 f45) spec_l01Src_bufs_v2_l3.ent.ins spec_l01Src_bufs_v2_l3.ent.rts spec_l01Src_bufs_v2_l3.ent.hm spec_l01Src_bufs_v2_l3.ent.nl spec_l01Src_bufs_v2_l3.ent.xs) n) v = _
  rw [spec_l01Src_bufs_v2_l3.eq, show (fun c0 c1 c2 c3 c4 c5 c6 => iter (evStep spec_l01Src_bufs_v2.E3 (bodyAt 3 f45) spec_l01Src_bufs_v2_l3.ent.ins spec_l01Src_bufs_v2_l3.ent.rts spec_l01Src_bufs_v2_l3.ent.hm spec_l01Src_bufs_v2_l3.ent.nl spec_l01Src_bufs_v2_l3.ent.xs) n (c0, c1, c2, c3, c4, c5, c6, ())) = spec_l01Src_bufs_v2_l3 n from by funext c0 c1 c2 c3 c4 c5 c6; exact ih _]
  rfl
theorem spec_l01Src_bufs_v2_l3.fr : firstRegion (bodyAt 3 f45) = 3 := by kernel_rfl
theorem spec_l01Src_bufs_v2_l3.ls : loopsOf (bodyAt 3 f45) = [] := by kernel_rfl
theorem spec_l01Src_bufs_v2_l3.lok {E : Env} (hpin : spec_l01Src_bufs_v2.E3.pin = E.pin) (hfind : find 3 E.loops = some spec_l01Src_bufs_v2_l3.ent) : LoopOK Pr E (bodyAt 3 f45) :=
 loop_of (E1 := spec_l01Src_bufs_v2.E3) (EnvOK.of dok spec_l01Src_bufs_v2.fok) mixed hpin (by rw [spec_l01Src_bufs_v2_l3.fr]; exact hfind) spec_l01Src_bufs_v2_l3.ls (by intro l hl; simp at hl) (fun v => (spec_l01Src_bufs_v2_l3.it K0 v).symm)
theorem spec_l01Src_bufs_v2.ls : loopsOf (bodyOf f45) = [bodyAt 3 f45] := by kernel_rfl
theorem spec_l01Src_bufs_v2.ok : EntryOK Pr 45 spec_l01Src_bufs_v2.ent :=
 entry_ok (E := spec_l01Src_bufs_v2.E) (EnvOK.of dok spec_l01Src_bufs_v2.fok) mixed (fn := f45) (by kernel_rfl) (by kernel_rfl) (by decide) spec_l01Src_bufs_v2.ls (by intro l hl; simp only [List.mem_singleton] at hl; subst hl; exact spec_l01Src_bufs_v2_l3.lok rfl rfl) spec_l01Src_bufs_v2.eq
/-! ### loop.example/g00038/spec.MemFault -/
noncomputable def spec_MemFault.E : Env := ⟨D, [], [], []⟩
noncomputable def spec_MemFault (a0 : ByteArray) : Option (Int × Unit) :=
 let x1 : Int := (Int.tmod (a0.size : Int) 256)
 let b2 : Bool := (((a0.size : Int) == 0) || (x1 != 0))
 let b3 : Bool := decide ((a0.size : Int) > 65536)
 bif (!(!((a0.size : Int) == 0)) || (!((256 : Int) == 0))) then
  bif (b2 || b3) then
   some (1, ())
  else
   some (0, ())
 else none
noncomputable def spec_MemFault.ent : Entry := ⟨[false], [.cell (.val .bor (.str))], [.cell (.val .bor (.int .i64))], [], fun v => spec_MemFault v.1⟩
theorem spec_MemFault.eq : ∀ v, evFn spec_MemFault.E f68 spec_MemFault.ent.ptrs spec_MemFault.ent.ins spec_MemFault.ent.rets spec_MemFault.ent.outs v = spec_MemFault.ent.f v := by intro v; kernel_rfl
theorem spec_MemFault.fok : ∀ q ∈ ([] : List (Nat × Entry)), EntryOK Pr q.1 q.2 := by intro q hq; simp at hq
theorem spec_MemFault.ls : loopsOf (bodyOf f68) = [] := by kernel_rfl
theorem spec_MemFault.ok : EntryOK Pr 68 spec_MemFault.ent :=
 entry_ok (E := spec_MemFault.E) (EnvOK.of dok spec_MemFault.fok) mixed (fn := f68) (by kernel_rfl) (by kernel_rfl) (by decide) spec_MemFault.ls (by intro l hl; simp at hl) spec_MemFault.eq
/-! ### loop.example/g00038/spec.l01InInts -/
noncomputable def spec_l01InInts.E2 : Env := ⟨D, [], [], []⟩
noncomputable def spec_l01InInts_l2_step (rec : List Int → Int → Int → Option ((Bool × Unit) ⊕ (Unit))) (y0 : List Int) (y1 : Int) (y2 : Int) : Option ((Bool × Unit) ⊕ (Unit)) :=
 let b1 : Bool := decide (y2 < (y0.length : Int))
 bif b1 then
  let b2 : Bool := ((rd (.int .i64) y0 y2) == y1)
  bif decide (0 ≤ y2) && decide (y2 < (y0.length : Int)) then
   bif b2 then
    some (Sum.inl (true, ()))
   else
    rec y0 y1 (wrap64 (y2 + 1))
  else none
 else
  some (Sum.inr ())
noncomputable def spec_l01InInts_l2 : Nat → List Int → Int → Int → Option ((Bool × Unit) ⊕ (Unit))
 | 0 => fun _ _ _ => none
 | n + 1 => spec_l01InInts_l2_step (spec_l01InInts_l2 n)
noncomputable def spec_l01InInts_l2.ent : LEntry := ⟨(.cell (.val .bor (.slice (.int .i64))) :: (.cell (.val .bor (.int .i64)) :: (sk 3 (.cell (.val .bor (.int .i64)) :: (sk 12 []))))), rk 18 [], [], [], [⟨none, sk 4 (.cell (.val .bor (.bool)) :: (sk 13 [])), rk 18 [], [], []⟩, ⟨some 0, sk 18 [], rk 18 [], [], []⟩], fun v => spec_l01InInts_l2 K0 v.1 v.2.1 v.2.2.1⟩
theorem spec_l01InInts_l2.eq : ∀ rec v, evStep spec_l01InInts.E2 (bodyAt 2 f112) spec_l01InInts_l2.ent.ins spec_l01InInts_l2.ent.rts spec_l01InInts_l2.ent.hm spec_l01InInts_l2.ent.nl spec_l01InInts_l2.ent.xs rec v = spec_l01InInts_l2_step (fun c0 c1 c2 => rec (c0, c1, c2, ())) v.1 v.2.1 v.2.2.1 := by intro rec v; kernel_rfl
noncomputable def spec_l01InInts.E : Env := ⟨D, [], [], [(2, spec_l01InInts_l2.ent)]⟩
noncomputable def spec_l01InInts (a0 : List Int) (a1 : Int) : Option (Bool × Unit) :=
 (spec_l01InInts_l2 K0 a0 a1 0).bind fun o3 =>
 match o3 with
 | Sum.inl p4 =>
  some (p4.1, ())
 | Sum.inr p5 =>
  some (false, ())
noncomputable def spec_l01InInts.ent : Entry := ⟨[false, false], [.cell (.val .bor (.slice (.int .i64))), .cell (.val .bor (.int .i64))], [.cell (.val .bor (.bool))], [], fun v => spec_l01InInts v.1 v.2.1⟩
theorem spec_l01InInts.eq : ∀ v, evFn spec_l01InInts.E f112 spec_l01InInts.ent.ptrs spec_l01InInts.ent.ins spec_l01InInts.ent.rets spec_l01InInts.ent.outs v = spec_l01InInts.ent.f v := by intro v; kernel_rfl
theorem spec_l01InInts.fok : ∀ q ∈ ([] : List (Nat × Entry)), EntryOK Pr q.1 q.2 := by intro q hq; simp at hq
theorem spec_l01InInts_l2.it : ∀ n v, iter (evStep spec_l01InInts.E2 (bodyAt 2 f112) spec_l01InInts_l2.ent.ins spec_l01InInts_l2.ent.rts spec_l01InInts_l2.ent.hm spec_l01InInts_l2.ent.nl spec_l01InInts_l2.ent.xs) n v = spec_l01InInts_l2 n v.1 v.2.1 v.2.2.1 := by
 intro n
 induction n with
 | zero => intro v; rfl
 | succ n ih =>
  intro v
  show (evStep spec_l01InInts.E2 (bodyAt 2 f112) spec_l01InInts_l2.ent.ins spec_l01InInts_l2.ent.rts spec_l01InInts_l2.ent.hm spec_l01InInts_l2.ent.nl spec_l01InInts_l2.ent.xs) (iter (evStep spec_l01InInts.E2 (bodyAt 2 f112) spec_l01InInts_l2.ent.ins spec_l01InInts_l2.ent.rts spec_l01InInts_l2.ent.hm spec_l01InInts_l2.ent.nl spec_l01InInts_l2.ent.xs) n) v = _
  rw [spec_l01InInts_l2.eq, show (fun c0 c1 c2 => iter (evStep spec_l01InInts.E2 (bodyAt 2 f112) spec_l01InInts_l2.ent.ins spec_l01InInts_l2.ent.rts spec_l01InInts_l2.ent.hm spec_l01InInts_l2.ent.nl spec_l01InInts_l2.ent.xs) n (c0, c1, c2, ())) = spec_l01InInts_l2 n from by funext c0 c1 c2; exact ih _]
  rfl
theorem spec_l01InInts_l2.fr : firstRegion (bodyAt 2 f112) = 2 := by kernel_rfl
theorem spec_l01InInts_l2.ls : loopsOf (bodyAt 2 f112) = [] := by kernel_rfl
theorem spec_l01InInts_l2.lok {E : Env} (hpin : spec_l01InInts.E2.pin = E.pin) (hfind : find 2 E.loops = some spec_l01InInts_l2.ent) : LoopOK Pr E (bodyAt 2 f112) :=
 loop_of (E1 := spec_l01InInts.E2) (EnvOK.of dok spec_l01InInts.fok) mixed hpin (by rw [spec_l01InInts_l2.fr]; exact hfind) spec_l01InInts_l2.ls (by intro l hl; simp at hl) (fun v => (spec_l01InInts_l2.it K0 v).symm)
theorem spec_l01InInts.ls : loopsOf (bodyOf f112) = [bodyAt 2 f112] := by kernel_rfl
theorem spec_l01InInts.ok : EntryOK Pr 112 spec_l01InInts.ent :=
 entry_ok (E := spec_l01InInts.E) (EnvOK.of dok spec_l01InInts.fok) mixed (fn := f112) (by kernel_rfl) (by kernel_rfl) (by decide) spec_l01InInts.ls (by intro l hl; simp only [List.mem_singleton] at hl; subst hl; exact spec_l01InInts_l2.lok rfl rfl) spec_l01InInts.eq
/-! ### loop.example/g00038/spec.l10In -/
noncomputable def spec_l10In.E : Env := ⟨D, [], [], []⟩
noncomputable def spec_l10In (a0 : ByteArray) (a1 : Int) (a2 : Int) : Option (Bool × Unit) :=
 let b1 : Bool := (decide (a1 ≥ 0) && decide (a2 ≥ 0))
 let b2 : Bool := decide (a1 ≤ (a0.size : Int))
 let x3 : Int := (wrap64 ((a0.size : Int) - a1))
 let b4 : Bool := ((b1 && b2) && decide (a2 ≤ x3))
 some (b4, ())
noncomputable def spec_l10In.ent : Entry := ⟨[false, false, false], [.cell (.val .bor (.str)), .cell (.val .bor (.int .i64)), .cell (.val .bor (.int .i64))], [.cell (.val .bor (.bool))], [], fun v => spec_l10In v.1 v.2.1 v.2.2.1⟩
theorem spec_l10In.eq : ∀ v, evFn spec_l10In.E f113 spec_l10In.ent.ptrs spec_l10In.ent.ins spec_l10In.ent.rets spec_l10In.ent.outs v = spec_l10In.ent.f v := by intro v; kernel_rfl
theorem spec_l10In.fok : ∀ q ∈ ([] : List (Nat × Entry)), EntryOK Pr q.1 q.2 := by intro q hq; simp at hq
theorem spec_l10In.ls : loopsOf (bodyOf f113) = [] := by kernel_rfl
theorem spec_l10In.ok : EntryOK Pr 113 spec_l10In.ent :=
 entry_ok (E := spec_l10In.E) (EnvOK.of dok spec_l10In.fok) mixed (fn := f113) (by kernel_rfl) (by kernel_rfl) (by decide) spec_l10In.ls (by intro l hl; simp at hl) spec_l10In.eq
/-! ### loop.example/g00038/spec.QueueFault -/
noncomputable def spec_QueueFault.E : Env := ⟨D, [], [(68, spec_MemFault.ent), (112, spec_l01InInts.ent), (113, spec_l10In.ent)], []⟩
noncomputable def spec_QueueFault (a0 : ByteArray) (a1 : Int) (a2 : Int) (a3 : Int) (a4 : Int) (a5 : Int) (a6 : Int) : Option (Int × Unit) :=
 (spec_MemFault a0).bind fun r1 =>
 let l2 : List Int := ([1, 2, 4, 8, 16] : List Int)
 let r3 : Bool × Unit := (spec_l01InInts l2 a1).getD (false, ())
 let b4 : Bool := (((r1.1 != 0) || !r3.1) || decide (a5 < 0))
 let b5 : Bool := (b4 || decide (a5 > 65535))
 let b6 : Bool := ((b5 || decide (a6 < 0)) || decide (a6 > 65535))
 bif (!(!(r1.1 != 0)) || ((spec_l01InInts l2 a1).isSome)) then
  bif b6 then
   some (1, ())
  else
   let b7 : Bool := (((Int.tmod a2 4) != 0) || ((Int.tmod a3 4) != 0))
   let b8 : Bool := (b7 || ((Int.tmod a4 4) != 0))
   let x9 : Int := (wrap64 ((16 : Int) * a1))
   let r10 : Bool × Unit := (spec_l10In a0 a2 x9).getD (false, ())
   let x11 : Int := (wrap64 ((4 : Int) * a1))
   let x12 : Int := (wrap64 ((8 : Int) + x11))
   let r13 : Bool × Unit := (spec_l10In a0 a3 x12).getD (false, ())
   let b14 : Bool := ((b8 || !r10.1) || !r13.1)
   let x15 : Int := (wrap64 ((8 : Int) * a1))
   let x16 : Int := (wrap64 ((8 : Int) + x15))
   let r17 : Bool × Unit := (spec_l10In a0 a4 x16).getD (false, ())
   bif (!((4 : Int) == 0)) && ((!(!((Int.tmod a2 4) != 0)) || (!((4 : Int) == 0))) && ((!(!b7) || (!((4 : Int) == 0))) && ((!(!b8) || ((spec_l10In a0 a2 x9).isSome)) && ((!(!(b8 || !r10.1)) || ((spec_l10In a0 a3 x12).isSome)) && (!(!b14) || ((spec_l10In a0 a4 x16).isSome)))))) then
    bif (b14 || !r17.1) then
     some (1, ())
    else
     some (0, ())
   else none
 else none
noncomputable def spec_QueueFault.ent : Entry := ⟨[false, false], [.cell (.val .bor (.str)), .agg [.val .bor (.int .i64), .val .bor (.int .i64), .val .bor (.int .i64), .val .bor (.int .i64), .val .bor (.int .i64), .val .bor (.int .i64)]], [.cell (.val .bor (.int .i64))], [], fun v => spec_QueueFault v.1 v.2.1 v.2.2.1 v.2.2.2.1 v.2.2.2.2.1 v.2.2.2.2.2.1 v.2.2.2.2.2.2.1⟩
theorem spec_QueueFault.eq : ∀ v, evFn spec_QueueFault.E f48 spec_QueueFault.ent.ptrs spec_QueueFault.ent.ins spec_QueueFault.ent.rets spec_QueueFault.ent.outs v = spec_QueueFault.ent.f v := by intro v; kernel_rfl
theorem spec_QueueFault.fok : ∀ q ∈ [((68 : Nat), spec_MemFault.ent), ((112 : Nat), spec_l01InInts.ent), ((113 : Nat), spec_l10In.ent)], EntryOK Pr q.1 q.2 := by
 intro q hq
 simp only [List.mem_cons, List.mem_nil_iff, or_false] at hq
 rcases hq with rfl | rfl | rfl
 · exact spec_MemFault.ok
 · exact spec_l01InInts.ok
 · exact spec_l10In.ok
theorem spec_QueueFault.ls : loopsOf (bodyOf f48) = [] := by kernel_rfl
theorem spec_QueueFault.ok : EntryOK Pr 48 spec_QueueFault.ent :=
 entry_ok (E := spec_QueueFault.E) (EnvOK.of dok spec_QueueFault.fok) mixed (fn := f48) (by kernel_rfl) (by kernel_rfl) (by decide) spec_QueueFault.ls (by intro l hl; simp at hl) spec_QueueFault.eq
/-! ### loop.example/g00038/spec.l01IsWord -/
noncomputable def spec_l01IsWord.E : Env := ⟨D, [], [], []⟩
noncomputable def spec_l01IsWord (a0 : Int) : Option (Bool × Unit) :=
 let b1 : Bool := (decide (a0 ≥ 0) && decide (a0 < 4294967296))
 some (b1, ())
noncomputable def spec_l01IsWord.ent : Entry := ⟨[false], [.cell (.val .bor (.int .i64))], [.cell (.val .bor (.bool))], [], fun v => spec_l01IsWord v.1⟩
theorem spec_l01IsWord.eq : ∀ v, evFn spec_l01IsWord.E f49 spec_l01IsWord.ent.ptrs spec_l01IsWord.ent.ins spec_l01IsWord.ent.rets spec_l01IsWord.ent.outs v = spec_l01IsWord.ent.f v := by intro v; kernel_rfl
theorem spec_l01IsWord.fok : ∀ q ∈ ([] : List (Nat × Entry)), EntryOK Pr q.1 q.2 := by intro q hq; simp at hq
theorem spec_l01IsWord.ls : loopsOf (bodyOf f49) = [] := by kernel_rfl
theorem spec_l01IsWord.ok : EntryOK Pr 49 spec_l01IsWord.ent :=
 entry_ok (E := spec_l01IsWord.E) (EnvOK.of dok spec_l01IsWord.fok) mixed (fn := f49) (by kernel_rfl) (by kernel_rfl) (by decide) spec_l01IsWord.ls (by intro l hl; simp at hl) spec_l01IsWord.eq
/-! ### loop.example/g00038/spec.l01Bool -/
noncomputable def spec_l01Bool.E : Env := ⟨D, [], [], []⟩
noncomputable def spec_l01Bool (a0 : Bool) : Option (Int × Unit) :=
 bif a0 then
  some (1, ())
 else
  some (0, ())
noncomputable def spec_l01Bool.ent : Entry := ⟨[false], [.cell (.val .bor (.bool))], [.cell (.val .bor (.int .i64))], [], fun v => spec_l01Bool v.1⟩
theorem spec_l01Bool.eq : ∀ v, evFn spec_l01Bool.E f50 spec_l01Bool.ent.ptrs spec_l01Bool.ent.ins spec_l01Bool.ent.rets spec_l01Bool.ent.outs v = spec_l01Bool.ent.f v := by intro v; kernel_rfl
theorem spec_l01Bool.fok : ∀ q ∈ ([] : List (Nat × Entry)), EntryOK Pr q.1 q.2 := by intro q hq; simp at hq
theorem spec_l01Bool.ls : loopsOf (bodyOf f50) = [] := by kernel_rfl
theorem spec_l01Bool.ok : EntryOK Pr 50 spec_l01Bool.ent :=
 entry_ok (E := spec_l01Bool.E) (EnvOK.of dok spec_l01Bool.fok) mixed (fn := f50) (by kernel_rfl) (by kernel_rfl) (by decide) spec_l01Bool.ls (by intro l hl; simp at hl) spec_l01Bool.eq
/-! ### loop.example/g00038/spec.PostChain -/
noncomputable def spec_PostChain.E6 : Env := ⟨D, [], [(48, spec_QueueFault.ent), (49, spec_l01IsWord.ent), (50, spec_l01Bool.ent), (41, spec_SetWord.ent), (51, spec_l01Word.ent)], []⟩
noncomputable def spec_PostChain_l6_step (rec : ByteArray → Int → List V1 → Int → Int → Int → Int → Int → Int → Int → Int → ByteArray → Int → Int → Int → Int → Int → Int → Bool → Option ((Int × ByteArray × Int × Int × Int × Int × Int × Int × Bool × Unit) ⊕ (ByteArray × Int × List V1 × Int × Int × Int × Int × Int × Int × Int × ByteArray × Int × Int × Int × Int × Int × Int × Bool × Unit))) (y0 : ByteArray) (y1 : Int) (y2 : List V1) (y3 : Int) (y4 : Int) (y5 : Int) (y6 : Int) (y7 : Int) (y8 : Int) (y9 : Int) (y10 : Int) (y11 : ByteArray) (y12 : Int) (y13 : Int) (y14 : Int) (y15 : Int) (y16 : Int) (y17 : Int) (y18 : Bool) : Option ((Int × ByteArray × Int × Int × Int × Int × Int × Int × Bool × Unit) ⊕ (ByteArray × Int × List V1 × Int × Int × Int × Int × Int × Int × Int × ByteArray × Int × Int × Int × Int × Int × Int × Bool × Unit)) :=
 let b8 : Bool := decide (y3 < (y2.length : Int))
 bif b8 then
  let e9 : V1 := rd R1 y2 y3
  (spec_l01IsWord e9.1).bind fun r10 =>
  let r11 : Bool × Unit := (spec_l01IsWord e9.2.1).getD (false, ())
  bif (decide (0 ≤ y3) && decide (y3 < (y2.length : Int))) && ((!(!(!r10.1)) || (decide (0 ≤ y3) && decide (y3 < (y2.length : Int)))) && (!(!(!r10.1)) || ((spec_l01IsWord e9.2.1).isSome))) then
   bif (!r10.1 || !r11.1) then
    some (Sum.inl (1, ByteArray.empty, 0, 0, 0, 0, 0, 0, false, ()))
   else
    rec y0 y1 y2 (wrap64 (y3 + 1)) y4 y5 y6 y7 y8 y9 y10 y11 y12 y13 y14 y15 y16 y17 y18
  else none
 else
  some (Sum.inr (y0, y1, y2, y4, y5, y6, y7, y8, y9, y10, y11, y12, y13, y14, y15, y16, y17, y18, ()))
noncomputable def spec_PostChain_l6 : Nat → ByteArray → Int → List V1 → Int → Int → Int → Int → Int → Int → Int → Int → ByteArray → Int → Int → Int → Int → Int → Int → Bool → Option ((Int × ByteArray × Int × Int × Int × Int × Int × Int × Bool × Unit) ⊕ (ByteArray × Int × List V1 × Int × Int × Int × Int × Int × Int × Int × ByteArray × Int × Int × Int × Int × Int × Int × Bool × Unit))
 | 0 => fun _ _ _ _ _ _ _ _ _ _ _ _ _ _ _ _ _ _ _ => none
 | n + 1 => spec_PostChain_l6_step (spec_PostChain_l6 n)
noncomputable def spec_PostChain_l6.ent : LEntry := ⟨(.cell (.val .bor (.str)) :: (sk 1 (.cell (.val .bor (.int .i64)) :: (.cell (.val .bor (.slice R1)) :: (sk 1 (.cell (.fix (.ptr 5 0)) :: (sk 2 (.cell (.fix (.ptr 8 0)) :: (.cell (.val .bor (.int .i64)) :: (sk 154 [])))))))))), rk 5 ([.val .bor (.int .i64), .val .bor (.int .i64), .val .bor (.int .i64), .val .bor (.int .i64), .val .bor (.int .i64), .val .bor (.int .i64)] :: (rk 2 ([.val .bor (.int .i64), .val .bor (.str), .val .bor (.int .i64), .val .bor (.int .i64), .val .bor (.int .i64), .val .bor (.int .i64), .val .bor (.int .i64), .val .bor (.int .i64), .val .bor (.bool)] :: (rk 155 [])))), [], [], [⟨none, sk 8 (.cell (.fix (.ptr 8 0)) :: (sk 155 [])), rk 8 ([.val .bor (.int .i64), .val .bor (.str), .val .bor (.int .i64), .val .bor (.int .i64), .val .bor (.int .i64), .val .bor (.int .i64), .val .bor (.int .i64), .val .bor (.int .i64), .val .bor (.bool)] :: (rk 155 [])), [], []⟩, ⟨some 0, (.cell (.val .bor (.str)) :: (sk 1 (.cell (.val .bor (.int .i64)) :: (.cell (.val .bor (.slice R1)) :: (sk 1 (.cell (.fix (.ptr 5 0)) :: (sk 2 (.cell (.fix (.ptr 8 0)) :: (sk 155 []))))))))), rk 5 ([.val .bor (.int .i64), .val .bor (.int .i64), .val .bor (.int .i64), .val .bor (.int .i64), .val .bor (.int .i64), .val .bor (.int .i64)] :: (rk 2 ([.val .bor (.int .i64), .val .bor (.str), .val .bor (.int .i64), .val .bor (.int .i64), .val .bor (.int .i64), .val .bor (.int .i64), .val .bor (.int .i64), .val .bor (.int .i64), .val .bor (.bool)] :: (rk 155 [])))), [], []⟩], fun v => spec_PostChain_l6 K0 v.1 v.2.1 v.2.2.1 v.2.2.2.1 v.2.2.2.2.1 v.2.2.2.2.2.1 v.2.2.2.2.2.2.1 v.2.2.2.2.2.2.2.1 v.2.2.2.2.2.2.2.2.1 v.2.2.2.2.2.2.2.2.2.1 v.2.2.2.2.2.2.2.2.2.2.1 v.2.2.2.2.2.2.2.2.2.2.2.1 v.2.2.2.2.2.2.2.2.2.2.2.2.1 v.2.2.2.2.2.2.2.2.2.2.2.2.2.1 v.2.2.2.2.2.2.2.2.2.2.2.2.2.2.1 v.2.2.2.2.2.2.2.2.2.2.2.2.2.2.2.1 v.2.2.2.2.2.2.2.2.2.2.2.2.2.2.2.2.1 v.2.2.2.2.2.2.2.2.2.2.2.2.2.2.2.2.2.1 v.2.2.2.2.2.2.2.2.2.2.2.2.2.2.2.2.2.2.1⟩
theorem spec_PostChain_l6.eq : ∀ rec v, evStep spec_PostChain.E6 (bodyAt 6 f9) spec_PostChain_l6.ent.ins spec_PostChain_l6.ent.rts spec_PostChain_l6.ent.hm spec_PostChain_l6.ent.nl spec_PostChain_l6.ent.xs rec v = spec_PostChain_l6_step (fun c0 c1 c2 c3 c4 c5 c6 c7 c8 c9 c10 c11 c12 c13 c14 c15 c16 c17 c18 => rec (c0, c1, c2, c3, c4, c5, c6, c7, c8, c9, c10, c11, c12, c13, c14, c15, c16, c17, c18, ())) v.1 v.2.1 v.2.2.1 v.2.2.2.1 v.2.2.2.2.1 v.2.2.2.2.2.1 v.2.2.2.2.2.2.1 v.2.2.2.2.2.2.2.1 v.2.2.2.2.2.2.2.2.1 v.2.2.2.2.2.2.2.2.2.1 v.2.2.2.2.2.2.2.2.2.2.1 v.2.2.2.2.2.2.2.2.2.2.2.1 v.2.2.2.2.2.2.2.2.2.2.2.2.1 v.2.2.2.2.2.2.2.2.2.2.2.2.2.1 v.2.2.2.2.2.2.2.2.2.2.2.2.2.2.1 v.2.2.2.2.2.2.2.2.2.2.2.2.2.2.2.1 v.2.2.2.2.2.2.2.2.2.2.2.2.2.2.2.2.1 v.2.2.2.2.2.2.2.2.2.2.2.2.2.2.2.2.2.1 v.2.2.2.2.2.2.2.2.2.2.2.2.2.2.2.2.2.2.1 := by intro rec v; kernel_rfl
noncomputable def spec_PostChain.E11 : Env := ⟨D, [], [(48, spec_QueueFault.ent), (49, spec_l01IsWord.ent), (50, spec_l01Bool.ent), (41, spec_SetWord.ent), (51, spec_l01Word.ent)], [(6, spec_PostChain_l6.ent)]⟩
noncomputable def spec_PostChain_l11_step (rec : ByteArray → Int → List V1 → Int → Int → Int → Int → Int → Int → Int → Int → ByteArray → Int → Int → Int → Int → Int → Int → Bool → Option ((ByteArray × Int × Int × Int × Int × Int × Int × Int × Int × ByteArray × Int × Int × Int × Int × Int × Int × Bool × Unit))) (y0 : ByteArray) (y1 : Int) (y2 : List V1) (y3 : Int) (y4 : Int) (y5 : Int) (y6 : Int) (y7 : Int) (y8 : Int) (y9 : Int) (y10 : Int) (y11 : ByteArray) (y12 : Int) (y13 : Int) (y14 : Int) (y15 : Int) (y16 : Int) (y17 : Int) (y18 : Bool) : Option ((ByteArray × Int × Int × Int × Int × Int × Int × Int × Int × ByteArray × Int × Int × Int × Int × Int × Int × Bool × Unit)) :=
 let b15 : Bool := decide (y3 < (y2.length : Int))
 bif b15 then
  let x16 : Int := (Int.tmod (wrap64 (y1 + y3)) y4)
  let x17 : Int := (wrap64 ((16 : Int) * x16))
  bif !(y4 == 0) then
   let e18 : V1 := rd R1 y2 y3
   (spec_l01Bool e18.2.2).bind fun r19 =>
   let x20 : Int := (wrap64 ((2 : Int) * r19.1))
   bif decide (0 ≤ y3) && decide (y3 < (y2.length : Int)) then
    let b21 : Bool := decide ((wrap64 (y3 + 1)) < (y2.length : Int))
    let x22 : Int := (wrap64 ((wrap64 (y1 + y3)) + 1))
    let s23 : ByteArray := (bif b21 then y0 else y0)
    let x24 : Int := (bif b21 then y1 else y1)
    let l25 : List V1 := (bif b21 then y2 else y2)
    let x26 : Int := (bif b21 then y3 else y3)
    let x27 : Int := (bif b21 then (wrap64 (y5 + x17)) else (wrap64 (y5 + x17)))
    let x28 : Int := (bif b21 then (wrap64 (x20 + 1)) else x20)
    let x29 : Int := (bif b21 then (Int.tmod x22 y4) else 0)
    let x32 : Int := (bif b21 then y5 else y5)
    let x34 : Int := (bif b21 then y4 else y4)
    let x42 : Int := (bif b21 then y6 else y6)
    let x43 : Int := (bif b21 then y7 else y7)
    let x44 : Int := (bif b21 then y8 else y8)
    let x45 : Int := (bif b21 then y9 else y9)
    let x46 : Int := (bif b21 then y10 else y10)
    let s47 : ByteArray := (bif b21 then y11 else y11)
    let x48 : Int := (bif b21 then y12 else y12)
    let x49 : Int := (bif b21 then y13 else y13)
    let x50 : Int := (bif b21 then y14 else y14)
    let x51 : Int := (bif b21 then y15 else y15)
    let x52 : Int := (bif b21 then y16 else y16)
    let x53 : Int := (bif b21 then y17 else y17)
    let b54 : Bool := (bif b21 then y18 else y18)
    bif (!b21 || (!(y4 == 0))) then
     let e55 : V1 := rd R1 l25 x26
     (spec_SetWord s23 x27 e55.1).bind fun r56 =>
     (spec_SetWord r56.1 (wrap64 (x27 + 4)) e55.2.1).bind fun r57 =>
     bif (decide (0 ≤ x26) && decide (x26 < (l25.length : Int))) && (decide (0 ≤ x26) && decide (x26 < (l25.length : Int))) then
      (spec_SetWord r57.1 (wrap64 (x27 + 8)) x28).bind fun r58 =>
      (spec_SetWord r58.1 (wrap64 (x27 + 12)) x29).bind fun r59 =>
      rec r59.1 x24 l25 (wrap64 (x26 + 1)) x34 x32 x42 x43 x44 x45 x46 s47 x48 x49 x50 x51 x52 x53 b54
     else none
    else none
   else none
  else none
 else
  some (y0, y1, y4, y5, y6, y7, y8, y9, y10, y11, y12, y13, y14, y15, y16, y17, y18, ())
noncomputable def spec_PostChain_l11 : Nat → ByteArray → Int → List V1 → Int → Int → Int → Int → Int → Int → Int → Int → ByteArray → Int → Int → Int → Int → Int → Int → Bool → Option ((ByteArray × Int × Int × Int × Int × Int × Int × Int × Int × ByteArray × Int × Int × Int × Int × Int × Int × Bool × Unit))
 | 0 => fun _ _ _ _ _ _ _ _ _ _ _ _ _ _ _ _ _ _ _ => none
 | n + 1 => spec_PostChain_l11_step (spec_PostChain_l11 n)
noncomputable def spec_PostChain_l11.ent : LEntry := ⟨(.cell (.val .bor (.str)) :: (sk 1 (.cell (.val .bor (.int .i64)) :: (.cell (.val .bor (.slice R1)) :: (sk 1 (.cell (.fix (.ptr 5 0)) :: (sk 2 (.cell (.fix (.ptr 8 0)) :: (sk 1 (.cell (.val .bor (.int .i64)) :: (sk 153 []))))))))))), rk 5 ([.val .bor (.int .i64), .val .bor (.int .i64), .val .bor (.int .i64), .val .bor (.int .i64), .val .bor (.int .i64), .val .bor (.int .i64)] :: (rk 2 ([.val .bor (.int .i64), .val .bor (.str), .val .bor (.int .i64), .val .bor (.int .i64), .val .bor (.int .i64), .val .bor (.int .i64), .val .bor (.int .i64), .val .bor (.int .i64), .val .bor (.bool)] :: (rk 155 [])))), [], [], [⟨some 2, (.cell (.val .bor (.str)) :: (sk 1 (.cell (.val .bor (.int .i64)) :: (sk 2 (.cell (.fix (.ptr 5 0)) :: (sk 2 (.cell (.fix (.ptr 8 0)) :: (sk 155 [])))))))), rk 5 ([.val .bor (.int .i64), .val .bor (.int .i64), .val .bor (.int .i64), .val .bor (.int .i64), .val .bor (.int .i64), .val .bor (.int .i64)] :: (rk 2 ([.val .bor (.int .i64), .val .bor (.str), .val .bor (.int .i64), .val .bor (.int .i64), .val .bor (.int .i64), .val .bor (.int .i64), .val .bor (.int .i64), .val .bor (.int .i64), .val .bor (.bool)] :: (rk 155 [])))), [], []⟩], fun v => spec_PostChain_l11 K0 v.1 v.2.1 v.2.2.1 v.2.2.2.1 v.2.2.2.2.1 v.2.2.2.2.2.1 v.2.2.2.2.2.2.1 v.2.2.2.2.2.2.2.1 v.2.2.2.2.2.2.2.2.1 v.2.2.2.2.2.2.2.2.2.1 v.2.2.2.2.2.2.2.2.2.2.1 v.2.2.2.2.2.2.2.2.2.2.2.1 v.2.2.2.2.2.2.2.2.2.2.2.2.1 v.2.2.2.2.2.2.2.2.2.2.2.2.2.1 v.2.2.2.2.2.2.2.2.2.2.2.2.2.2.1 v.2.2.2.2.2.2.2.2.2.2.2.2.2.2.2.1 v.2.2.2.2.2.2.2.2.2.2.2.2.2.2.2.2.1 v.2.2.2.2.2.2.2.2.2.2.2.2.2.2.2.2.2.1 v.2.2.2.2.2.2.2.2.2.2.2.2.2.2.2.2.2.2.1⟩
theorem spec_PostChain_l11.eq : ∀ rec v, evStep spec_PostChain.E11 (bodyAt 11 f9) spec_PostChain_l11.ent.ins spec_PostChain_l11.ent.rts spec_PostChain_l11.ent.hm spec_PostChain_l11.ent.nl spec_PostChain_l11.ent.xs rec v = spec_PostChain_l11_step (fun c0 c1 c2 c3 c4 c5 c6 c7 c8 c9 c10 c11 c12 c13 c14 c15 c16 c17 c18 => rec (c0, c1, c2, c3, c4, c5, c6, c7, c8, c9, c10, c11, c12, c13, c14, c15, c16, c17, c18, ())) v.1 v.2.1 v.2.2.1 v.2.2.2.1 v.2.2.2.2.1 v.2.2.2.2.2.1 v.2.2.2.2.2.2.1 v.2.2.2.2.2.2.2.1 v.2.2.2.2.2.2.2.2.1 v.2.2.2.2.2.2.2.2.2.1 v.2.2.2.2.2.2.2.2.2.2.1 v.2.2.2.2.2.2.2.2.2.2.2.1 v.2.2.2.2.2.2.2.2.2.2.2.2.1 v.2.2.2.2.2.2.2.2.2.2.2.2.2.1 v.2.2.2.2.2.2.2.2.2.2.2.2.2.2.1 v.2.2.2.2.2.2.2.2.2.2.2.2.2.2.2.1 v.2.2.2.2.2.2.2.2.2.2.2.2.2.2.2.2.1 v.2.2.2.2.2.2.2.2.2.2.2.2.2.2.2.2.2.1 v.2.2.2.2.2.2.2.2.2.2.2.2.2.2.2.2.2.2.1 := by intro rec v; kernel_rfl
noncomputable def spec_PostChain.E : Env := ⟨D, [], [(48, spec_QueueFault.ent), (49, spec_l01IsWord.ent), (50, spec_l01Bool.ent), (41, spec_SetWord.ent), (51, spec_l01Word.ent)], [(6, spec_PostChain_l6.ent), (11, spec_PostChain_l11.ent)]⟩
noncomputable def spec_PostChain (a0 : ByteArray) (a1 : Int) (a2 : Int) (a3 : Int) (a4 : Int) (a5 : Int) (a6 : Int) (a7 : Int) (a8 : List V1) : Option (Int × ByteArray × Int × Int × Int × Int × Int × Int × Bool × Unit) :=
 let b1 : Bool := decide ((a8.length : Int) > 1000)
 let b2 : Bool := decide ((a0.size : Int) > 65536)
 bif (b1 || b2) then
  some (2, ByteArray.empty, 0, 0, 0, 0, 0, 0, false, ())
 else
  (spec_QueueFault a0 a1 a2 a3 a4 a5 a6).bind fun r3 =>
  let b4 : Bool := ((r3.1 != 0) || decide (a7 < 0))
  let b5 : Bool := decide ((a8.length : Int) < 1)
  let b6 : Bool := ((b4 || decide (a7 ≥ a1)) || b5)
  let b7 : Bool := decide ((a8.length : Int) > a1)
  bif (b6 || b7) then
   some (1, ByteArray.empty, 0, 0, 0, 0, 0, 0, false, ())
  else
   (spec_PostChain_l6 K0 a0 a7 a8 0 a1 a2 a3 a4 a5 a6 0 ByteArray.empty 0 0 0 0 0 0 false).bind fun o12 =>
   match o12 with
   | Sum.inl p13 =>
    some (p13.1, p13.2.1, p13.2.2.1, p13.2.2.2.1, p13.2.2.2.2.1, p13.2.2.2.2.2.1, p13.2.2.2.2.2.2.1, p13.2.2.2.2.2.2.2.1, p13.2.2.2.2.2.2.2.2.1, ())
   | Sum.inr p14 =>
    (spec_PostChain_l11 K0 p14.1 p14.2.1 p14.2.2.1 0 p14.2.2.2.1 p14.2.2.2.2.1 p14.2.2.2.2.2.1 p14.2.2.2.2.2.2.1 p14.2.2.2.2.2.2.2.1 p14.2.2.2.2.2.2.2.2.1 p14.2.2.2.2.2.2.2.2.2.1 p14.2.2.2.2.2.2.2.2.2.2.1 p14.2.2.2.2.2.2.2.2.2.2.2.1 p14.2.2.2.2.2.2.2.2.2.2.2.2.1 p14.2.2.2.2.2.2.2.2.2.2.2.2.2.1 p14.2.2.2.2.2.2.2.2.2.2.2.2.2.2.1 p14.2.2.2.2.2.2.2.2.2.2.2.2.2.2.2.1 p14.2.2.2.2.2.2.2.2.2.2.2.2.2.2.2.2.1 p14.2.2.2.2.2.2.2.2.2.2.2.2.2.2.2.2.2.1).bind fun o60 =>
    let x61 : Int := (wrap64 (o60.2.2.2.2.1 + 4))
    (spec_l01Word o60.1 x61).bind fun r62 =>
    bif !((65536 : Int) == 0) then
     let x63 : Int := (wrap64 (o60.2.2.2.2.1 + 8))
     let x64 : Int := (Int.tmod (Int.tmod r62.1 65536) o60.2.2.1)
     let x65 : Int := (wrap64 ((4 : Int) * x64))
     (spec_SetWord o60.1 (wrap64 (x63 + x65)) o60.2.1).bind fun r66 =>
     bif !(o60.2.2.1 == 0) then
      let x67 : Int := (wrap64 ((Int.tmod r62.1 65536) + 1))
      (spec_SetWord r66.1 x61 (Int.tmod x67 65536)).bind fun r68 =>
      bif !((65536 : Int) == 0) then
       some (0, r68.1, o60.2.2.1, o60.2.2.2.1, o60.2.2.2.2.1, o60.2.2.2.2.2.1, o60.2.2.2.2.2.2.1, o60.2.2.2.2.2.2.2.1, false, ())
      else none
     else none
    else none
noncomputable def spec_PostChain.ent : Entry := ⟨[false, false, false, false], [.cell (.val .bor (.str)), .agg [.val .bor (.int .i64), .val .bor (.int .i64), .val .bor (.int .i64), .val .bor (.int .i64), .val .bor (.int .i64), .val .bor (.int .i64)], .cell (.val .bor (.int .i64)), .cell (.val .bor (.slice R1))], [.agg [.val .bor (.int .i64), .val .bor (.str), .val .bor (.int .i64), .val .bor (.int .i64), .val .bor (.int .i64), .val .bor (.int .i64), .val .bor (.int .i64), .val .bor (.int .i64), .val .bor (.bool)]], [], fun v => spec_PostChain v.1 v.2.1 v.2.2.1 v.2.2.2.1 v.2.2.2.2.1 v.2.2.2.2.2.1 v.2.2.2.2.2.2.1 v.2.2.2.2.2.2.2.1 v.2.2.2.2.2.2.2.2.1⟩
theorem spec_PostChain.eq : ∀ v, evFn spec_PostChain.E f9 spec_PostChain.ent.ptrs spec_PostChain.ent.ins spec_PostChain.ent.rets spec_PostChain.ent.outs v = spec_PostChain.ent.f v := by intro v; kernel_rfl
theorem spec_PostChain.fok : ∀ q ∈ [((48 : Nat), spec_QueueFault.ent), ((49 : Nat), spec_l01IsWord.ent), ((50 : Nat), spec_l01Bool.ent), ((41 : Nat), spec_SetWord.ent), ((51 : Nat), spec_l01Word.ent)], EntryOK Pr q.1 q.2 := by
 intro q hq
 simp only [List.mem_cons, List.mem_nil_iff, or_false] at hq
 rcases hq with rfl | rfl | rfl | rfl | rfl
 · exact spec_QueueFault.ok
 · exact spec_l01IsWord.ok
 · exact spec_l01Bool.ok
 · exact spec_SetWord.ok
 · exact spec_l01Word.ok
theorem spec_PostChain_l6.it : ∀ n v, iter (evStep spec_PostChain.E6 (bodyAt 6 f9) spec_PostChain_l6.ent.ins spec_PostChain_l6.ent.rts spec_PostChain_l6.ent.hm spec_PostChain_l6.ent.nl spec_PostChain_l6.ent.xs) n v = spec_PostChain_l6 n v.1 v.2.1 v.2.2.1 v.2.2.2.1 v.2.2.2.2.1 v.2.2.2.2.2.1 v.2.2.2.2.2.2.1 v.2.2.2.2.2.2.2.1 v.2.2.2.2.2.2.2.2.1 v.2.2.2.2.2.2.2.2.2.1 v.2.2.2.2.2.2.2.2.2.2.1 v.2.2.2.2.2.2.2.2.2.2.2.1 v.2.2.2.2.2.2.2.2.2.2.2.2.1 v.2.2.2.2.2.2.2.2.2.2.2.2.2.1 v.2.2.2.2.2.2.2.2.2.2.2.2.2.2.1 v.2.2.2.2.2.2.2.2.2.2.2.2.2.2.2.1 v.2.2.2.2.2.2.2.2.2.2.2.2.2.2.2.2.1 v.2.2.2.2.2.2.2.2.2.2.2.2.2.2.2.2.2.1 v.2.2.2.2.2.2.2.2.2.2.2.2.2.2.2.2.2.2.1 := by
 intro n
 induction n with
 | zero => intro v; rfl
 | succ n ih =>
  intro v
  show (evStep spec_PostChain.E6 (bodyAt 6 f9) spec_PostChain_l6.ent.ins spec_PostChain_l6.ent.rts spec_PostChain_l6.ent.hm spec_PostChain_l6.ent.nl spec_PostChain_l6.ent.xs) (iter (evStep spec_PostChain.E6 (bodyAt 6 f9) spec_PostChain_l6.ent.ins spec_PostChain_l6.ent.rts spec_PostChain_l6.ent.hm spec_PostChain_l6.ent.nl spec_PostChain_l6.ent.xs) n) v = _
  rw [spec_PostChain_l6.eq, show (fun c0 c1 c2 c3 c4 c5 c6 c7 c8 c9 c10 c11 c12 c13 c14 c15 c16 c17 c18 => iter (evStep spec_PostChain.E6 (bodyAt 6 f9) spec_PostChain_l6.ent.ins spec_PostChain_l6.ent.rts spec_PostChain_l6.ent.hm spec_PostChain_l6.ent.nl spec_PostChain_l6.ent.xs) n (c0, c1, c2, c3, c4, c5, c6, c7, c8, c9, c10, c11, c12, c13, c14, c15, c16, c17, c18, ())) = spec_PostChain_l6 n from by funext c0 c1 c2 c3 c4 c5 c6 c7 c8 c9 c10 c11 c12 c13 c14 c15 c16 c17 c18; exact ih _]
  rfl
theorem spec_PostChain_l6.fr : firstRegion (bodyAt 6 f9) = 6 := by kernel_rfl
theorem spec_PostChain_l6.ls : loopsOf (bodyAt 6 f9) = [] := by kernel_rfl
theorem spec_PostChain_l6.lok {E : Env} (hpin : spec_PostChain.E6.pin = E.pin) (hfind : find 6 E.loops = some spec_PostChain_l6.ent) : LoopOK Pr E (bodyAt 6 f9) :=
 loop_of (E1 := spec_PostChain.E6) (EnvOK.of dok spec_PostChain.fok) mixed hpin (by rw [spec_PostChain_l6.fr]; exact hfind) spec_PostChain_l6.ls (by intro l hl; simp at hl) (fun v => (spec_PostChain_l6.it K0 v).symm)
theorem spec_PostChain_l11.it : ∀ n v, iter (evStep spec_PostChain.E11 (bodyAt 11 f9) spec_PostChain_l11.ent.ins spec_PostChain_l11.ent.rts spec_PostChain_l11.ent.hm spec_PostChain_l11.ent.nl spec_PostChain_l11.ent.xs) n v = spec_PostChain_l11 n v.1 v.2.1 v.2.2.1 v.2.2.2.1 v.2.2.2.2.1 v.2.2.2.2.2.1 v.2.2.2.2.2.2.1 v.2.2.2.2.2.2.2.1 v.2.2.2.2.2.2.2.2.1 v.2.2.2.2.2.2.2.2.2.1 v.2.2.2.2.2.2.2.2.2.2.1 v.2.2.2.2.2.2.2.2.2.2.2.1 v.2.2.2.2.2.2.2.2.2.2.2.2.1 v.2.2.2.2.2.2.2.2.2.2.2.2.2.1 v.2.2.2.2.2.2.2.2.2.2.2.2.2.2.1 v.2.2.2.2.2.2.2.2.2.2.2.2.2.2.2.1 v.2.2.2.2.2.2.2.2.2.2.2.2.2.2.2.2.1 v.2.2.2.2.2.2.2.2.2.2.2.2.2.2.2.2.2.1 v.2.2.2.2.2.2.2.2.2.2.2.2.2.2.2.2.2.2.1 := by
 intro n
 induction n with
 | zero => intro v; rfl
 | succ n ih =>
  intro v
  show (evStep spec_PostChain.E11 (bodyAt 11 f9) spec_PostChain_l11.ent.ins spec_PostChain_l11.ent.rts spec_PostChain_l11.ent.hm spec_PostChain_l11.ent.nl spec_PostChain_l11.ent.xs) (iter (evStep spec_PostChain.E11 (bodyAt 11 f9) spec_PostChain_l11.ent.ins spec_PostChain_l11.ent.rts spec_PostChain_l11.ent.hm spec_PostChain_l11.ent.nl spec_PostChain_l11.ent.xs) n) v = _
  rw [spec_PostChain_l11.eq, show (fun c0 c1 c2 c3 c4 c5 c6 c7 c8 c9 c10 c11 c12 c13 c14 c15 c16 c17 c18 => iter (evStep spec_PostChain.E11 (bodyAt 11 f9) spec_PostChain_l11.ent.ins spec_PostChain_l11.ent.rts spec_PostChain_l11.ent.hm spec_PostChain_l11.ent.nl spec_PostChain_l11.ent.xs) n (c0, c1, c2, c3, c4, c5, c6, c7, c8, c9, c10, c11, c12, c13, c14, c15, c16, c17, c18, ())) = spec_PostChain_l11 n from by funext c0 c1 c2 c3 c4 c5 c6 c7 c8 c9 c10 c11 c12 c13 c14 c15 c16 c17 c18; exact ih _]
  rfl
theorem spec_PostChain_l11.fr : firstRegion (bodyAt 11 f9) = 11 := by kernel_rfl
theorem spec_PostChain_l11.ls : loopsOf (bodyAt 11 f9) = [] := by kernel_rfl
theorem spec_PostChain_l11.lok {E : Env} (hpin : spec_PostChain.E11.pin = E.pin) (hfind : find 11 E.loops = some spec_PostChain_l11.ent) : LoopOK Pr E (bodyAt 11 f9) :=
 loop_of (E1 := spec_PostChain.E11) (EnvOK.of dok spec_PostChain.fok) mixed hpin (by rw [spec_PostChain_l11.fr]; exact hfind) spec_PostChain_l11.ls (by intro l hl; simp at hl) (fun v => (spec_PostChain_l11.it K0 v).symm)
theorem spec_PostChain.ls : loopsOf (bodyOf f9) = [bodyAt 6 f9, bodyAt 11 f9] := by kernel_rfl
theorem spec_PostChain.ok : EntryOK Pr 9 spec_PostChain.ent :=
 entry_ok (E := spec_PostChain.E) (EnvOK.of dok spec_PostChain.fok) mixed (fn := f9) (by kernel_rfl) (by kernel_rfl) (by decide) spec_PostChain.ls (by
  intro l hl
  simp only [List.mem_cons, List.mem_nil_iff, or_false] at hl
  rcases hl with rfl | rfl
  · exact spec_PostChain_l6.lok rfl rfl
  · exact spec_PostChain_l11.lok rfl rfl) spec_PostChain.eq
/-! ### loop.example/g00038/spec.l04Put -/
noncomputable def spec_l04Put.E2 : Env := ⟨D, [], [(41, spec_SetWord.ent)], []⟩
noncomputable def spec_l04Put_l2_step (rec : ByteArray → Int → List Int → Int → Option ((ByteArray × Unit))) (y0 : ByteArray) (y1 : Int) (y2 : List Int) (y3 : Int) : Option ((ByteArray × Unit)) :=
 let b1 : Bool := decide (y3 < (y2.length : Int))
 bif b1 then
  let x2 : Int := (wrap64 ((4 : Int) * y3))
  (spec_SetWord y0 (wrap64 (y1 + x2)) (rd (.int .i64) y2 y3)).bind fun r3 =>
  bif decide (0 ≤ y3) && decide (y3 < (y2.length : Int)) then
   rec r3.1 y1 y2 (wrap64 (y3 + 1))
  else none
 else
  some (y0, ())
noncomputable def spec_l04Put_l2 : Nat → ByteArray → Int → List Int → Int → Option ((ByteArray × Unit))
 | 0 => fun _ _ _ _ => none
 | n + 1 => spec_l04Put_l2_step (spec_l04Put_l2 n)
noncomputable def spec_l04Put_l2.ent : LEntry := ⟨(.cell (.val .bor (.str)) :: (.cell (.val .bor (.int .i64)) :: (.cell (.val .bor (.slice (.int .i64))) :: (sk 4 (.cell (.val .bor (.int .i64)) :: (sk 17 [])))))), rk 25 [], [], [], [⟨some 0, (.cell (.val .bor (.str)) :: (sk 24 [])), rk 25 [], [], []⟩], fun v => spec_l04Put_l2 K0 v.1 v.2.1 v.2.2.1 v.2.2.2.1⟩
theorem spec_l04Put_l2.eq : ∀ rec v, evStep spec_l04Put.E2 (bodyAt 2 f148) spec_l04Put_l2.ent.ins spec_l04Put_l2.ent.rts spec_l04Put_l2.ent.hm spec_l04Put_l2.ent.nl spec_l04Put_l2.ent.xs rec v = spec_l04Put_l2_step (fun c0 c1 c2 c3 => rec (c0, c1, c2, c3, ())) v.1 v.2.1 v.2.2.1 v.2.2.2.1 := by intro rec v; kernel_rfl
noncomputable def spec_l04Put.E : Env := ⟨D, [], [(41, spec_SetWord.ent)], [(2, spec_l04Put_l2.ent)]⟩
noncomputable def spec_l04Put (a0 : ByteArray) (a1 : Int) (a2 : List Int) : Option (ByteArray × Unit) :=
 (spec_l04Put_l2 K0 a0 a1 a2 0).bind fun o4 =>
 some (o4.1, ())
noncomputable def spec_l04Put.ent : Entry := ⟨[false, false, false], [.cell (.val .bor (.str)), .cell (.val .bor (.int .i64)), .cell (.val .bor (.slice (.int .i64)))], [.cell (.val .bor (.str))], [], fun v => spec_l04Put v.1 v.2.1 v.2.2.1⟩
theorem spec_l04Put.eq : ∀ v, evFn spec_l04Put.E f148 spec_l04Put.ent.ptrs spec_l04Put.ent.ins spec_l04Put.ent.rets spec_l04Put.ent.outs v = spec_l04Put.ent.f v := by intro v; kernel_rfl
theorem spec_l04Put.fok : ∀ q ∈ [((41 : Nat), spec_SetWord.ent)], EntryOK Pr q.1 q.2 := by
 intro q hq
 simp only [List.mem_cons, List.mem_nil_iff, or_false] at hq
 rcases hq with rfl
 · exact spec_SetWord.ok
theorem spec_l04Put_l2.it : ∀ n v, iter (evStep spec_l04Put.E2 (bodyAt 2 f148) spec_l04Put_l2.ent.ins spec_l04Put_l2.ent.rts spec_l04Put_l2.ent.hm spec_l04Put_l2.ent.nl spec_l04Put_l2.ent.xs) n v = spec_l04Put_l2 n v.1 v.2.1 v.2.2.1 v.2.2.2.1 := by
 intro n
 induction n with
 | zero => intro v; rfl
 | succ n ih =>
  intro v
  show (evStep spec_l04Put.E2 (bodyAt 2 f148) spec_l04Put_l2.ent.ins spec_l04Put_l2.ent.rts spec_l04Put_l2.ent.hm spec_l04Put_l2.ent.nl spec_l04Put_l2.ent.xs) (iter (evStep spec_l04Put.E2 (bodyAt 2 f148) spec_l04Put_l2.ent.ins spec_l04Put_l2.ent.rts spec_l04Put_l2.ent.hm spec_l04Put_l2.ent.nl spec_l04Put_l2.ent.xs) n) v = _
  rw [spec_l04Put_l2.eq, show (fun c0 c1 c2 c3 => iter (evStep spec_l04Put.E2 (bodyAt 2 f148) spec_l04Put_l2.ent.ins spec_l04Put_l2.ent.rts spec_l04Put_l2.ent.hm spec_l04Put_l2.ent.nl spec_l04Put_l2.ent.xs) n (c0, c1, c2, c3, ())) = spec_l04Put_l2 n from by funext c0 c1 c2 c3; exact ih _]
  rfl
theorem spec_l04Put_l2.fr : firstRegion (bodyAt 2 f148) = 2 := by kernel_rfl
theorem spec_l04Put_l2.ls : loopsOf (bodyAt 2 f148) = [] := by kernel_rfl
theorem spec_l04Put_l2.lok {E : Env} (hpin : spec_l04Put.E2.pin = E.pin) (hfind : find 2 E.loops = some spec_l04Put_l2.ent) : LoopOK Pr E (bodyAt 2 f148) :=
 loop_of (E1 := spec_l04Put.E2) (EnvOK.of dok spec_l04Put.fok) mixed hpin (by rw [spec_l04Put_l2.fr]; exact hfind) spec_l04Put_l2.ls (by intro l hl; simp at hl) (fun v => (spec_l04Put_l2.it K0 v).symm)
theorem spec_l04Put.ls : loopsOf (bodyOf f148) = [bodyAt 2 f148] := by kernel_rfl
theorem spec_l04Put.ok : EntryOK Pr 148 spec_l04Put.ent :=
 entry_ok (E := spec_l04Put.E) (EnvOK.of dok spec_l04Put.fok) mixed (fn := f148) (by kernel_rfl) (by kernel_rfl) (by decide) spec_l04Put.ls (by intro l hl; simp only [List.mem_singleton] at hl; subst hl; exact spec_l04Put_l2.lok rfl rfl) spec_l04Put.eq
/-! ### (*loop.example/g00038/spec.l01Src).posted -/
noncomputable def spec_l01Src_posted_v2.E4 : Env := ⟨D, [0], [(146, spec_l01Src_queueIn_v2.ent), (46, spec_l01Src_n_v2.ent), (147, spec_l01Min.ent), (45, spec_l01Src_bufs_v2.ent), (9, spec_PostChain.ent), (47, spec_l01Src_one_v2.ent), (41, spec_SetWord.ent), (148, spec_l04Put.ent)], []⟩
noncomputable def spec_l01Src_posted_v2_l4_step (rec : ByteArray → Int → Int → List Int → Int → Int → Int → Int → Int → Int → Int → Int → Int → Int → Int → Int → Int → Int → Int → Option ((ByteArray × List Int × Int × Int × Int × Int × Int × Int × Int × Int × Int × Int × Int × Int × Int × Int × Int × Unit))) (y0 : ByteArray) (y1 : Int) (y2 : Int) (y3 : List Int) (y4 : Int) (y5 : Int) (y6 : Int) (y7 : Int) (y8 : Int) (y9 : Int) (y10 : Int) (y11 : Int) (y12 : Int) (y13 : Int) (y14 : Int) (y15 : Int) (y16 : Int) (y17 : Int) (y18 : Int) : Option ((ByteArray × List Int × Int × Int × Int × Int × Int × Int × Int × Int × Int × Int × Int × Int × Int × Int × Int × Unit)) :=
 bif decide (y2 > 0) then
  (spec_l01Min 3 y13).bind fun r3 =>
  (spec_l01Src_n_v2 y3 y4 y5 y6 r3.1).bind fun r4 =>
  let x5 : Int := (wrap64 ((1 : Int) + r4.1))
  (spec_l01Src_bufs_v2 r4.2.1 r4.2.2.1 r4.2.2.2.1 r4.2.2.2.2.1 x5).bind fun r6 =>
  (spec_PostChain y0 y13 y14 y15 y16 y17 y18 (Int.tmod y1 y13) r6.1).bind fun r7 =>
  bif !(y13 == 0) then
   let s8 : ByteArray := (bif (r7.1 == 0) then r7.2.1 else y0)
   let x9 : Int := (bif (r7.1 == 0) then y1 else y1)
   let x10 : Int := (bif (r7.1 == 0) then y2 else y2)
   let x12 : Int := (bif (r7.1 == 0) then y13 else y13)
   let x17 : Int := (bif (r7.1 == 0) then y14 else y14)
   let x18 : Int := (bif (r7.1 == 0) then y15 else y15)
   let x19 : Int := (bif (r7.1 == 0) then y16 else y16)
   let x20 : Int := (bif (r7.1 == 0) then y17 else y17)
   let x21 : Int := (bif (r7.1 == 0) then y18 else y18)
   let l33 : List Int := (bif (r7.1 == 0) then r6.2.1 else r6.2.1)
   let x34 : Int := (bif (r7.1 == 0) then r6.2.2.1 else r6.2.2.1)
   let x35 : Int := (bif (r7.1 == 0) then r6.2.2.2.1 else r6.2.2.2.1)
   let x36 : Int := (bif (r7.1 == 0) then r6.2.2.2.2.1 else r6.2.2.2.2.1)
   let x37 : Int := (bif (r7.1 == 0) then y7 else y7)
   let x38 : Int := (bif (r7.1 == 0) then y8 else y8)
   let x39 : Int := (bif (r7.1 == 0) then y9 else y9)
   let x40 : Int := (bif (r7.1 == 0) then y10 else y10)
   let x41 : Int := (bif (r7.1 == 0) then y11 else y11)
   let x42 : Int := (bif (r7.1 == 0) then y12 else y12)
   let l43 : List V1 := (bif (r7.1 == 0) then r6.1 else r6.1)
   let x44 : Int := (wrap64 (x9 + (l43.length : Int)))
   rec s8 x44 (wrap64 (x10 - 1)) l33 x34 x35 x36 x37 x38 x39 x40 x41 x42 x12 x17 x18 x19 x20 x21
  else none
 else
  some (y0, y3, y4, y5, y6, y7, y8, y9, y10, y11, y12, y13, y14, y15, y16, y17, y18, ())
noncomputable def spec_l01Src_posted_v2_l4 : Nat → ByteArray → Int → Int → List Int → Int → Int → Int → Int → Int → Int → Int → Int → Int → Int → Int → Int → Int → Int → Int → Option ((ByteArray × List Int × Int × Int × Int × Int × Int × Int × Int × Int × Int × Int × Int × Int × Int × Int × Int × Unit))
 | 0 => fun _ _ _ _ _ _ _ _ _ _ _ _ _ _ _ _ _ _ _ => none
 | n + 1 => spec_l01Src_posted_v2_l4_step (spec_l01Src_posted_v2_l4 n)
noncomputable def spec_l01Src_posted_v2_l4.ent : LEntry := ⟨(.cell (.fix (.ptr 0 0)) :: (sk 2 (.cell (.fix (.ptr 3 0)) :: (.cell (.val .bor (.str)) :: (.cell (.fix (.ptr 5 0)) :: (.cell (.val .bor (.int .i64)) :: (.cell (.val .bor (.int .i64)) :: (sk 109 [])))))))), ([.val .imm (.slice (.int .u8)), .val .bor (.int .i64), .val .bor (.int .u64), .val .bor (.int .i64)] :: (rk 2 ([.val .bor (.int .i64), .val .bor (.int .i64), .val .bor (.int .i64), .val .bor (.int .i64), .val .bor (.int .i64), .val .bor (.int .i64)] :: (rk 1 ([.val .bor (.int .i64), .val .bor (.int .i64), .val .bor (.int .i64), .val .bor (.int .i64), .val .bor (.int .i64), .val .bor (.int .i64)] :: (rk 111 [])))))), [], [], [⟨some 0, (.cell (.fix (.ptr 0 0)) :: (sk 2 (.cell (.fix (.ptr 3 0)) :: (.cell (.val .bor (.str)) :: (.cell (.fix (.ptr 5 0)) :: (sk 111 [])))))), ([.val .imm (.slice (.int .u8)), .val .bor (.int .i64), .val .bor (.int .u64), .val .bor (.int .i64)] :: (rk 2 ([.val .bor (.int .i64), .val .bor (.int .i64), .val .bor (.int .i64), .val .bor (.int .i64), .val .bor (.int .i64), .val .bor (.int .i64)] :: (rk 1 ([.val .bor (.int .i64), .val .bor (.int .i64), .val .bor (.int .i64), .val .bor (.int .i64), .val .bor (.int .i64), .val .bor (.int .i64)] :: (rk 111 [])))))), [], []⟩], fun v => spec_l01Src_posted_v2_l4 K0 v.1 v.2.1 v.2.2.1 v.2.2.2.1 v.2.2.2.2.1 v.2.2.2.2.2.1 v.2.2.2.2.2.2.1 v.2.2.2.2.2.2.2.1 v.2.2.2.2.2.2.2.2.1 v.2.2.2.2.2.2.2.2.2.1 v.2.2.2.2.2.2.2.2.2.2.1 v.2.2.2.2.2.2.2.2.2.2.2.1 v.2.2.2.2.2.2.2.2.2.2.2.2.1 v.2.2.2.2.2.2.2.2.2.2.2.2.2.1 v.2.2.2.2.2.2.2.2.2.2.2.2.2.2.1 v.2.2.2.2.2.2.2.2.2.2.2.2.2.2.2.1 v.2.2.2.2.2.2.2.2.2.2.2.2.2.2.2.2.1 v.2.2.2.2.2.2.2.2.2.2.2.2.2.2.2.2.2.1 v.2.2.2.2.2.2.2.2.2.2.2.2.2.2.2.2.2.2.1⟩
theorem spec_l01Src_posted_v2_l4.eq : ∀ rec v, evStep spec_l01Src_posted_v2.E4 (bodyAt 4 f111) spec_l01Src_posted_v2_l4.ent.ins spec_l01Src_posted_v2_l4.ent.rts spec_l01Src_posted_v2_l4.ent.hm spec_l01Src_posted_v2_l4.ent.nl spec_l01Src_posted_v2_l4.ent.xs rec v = spec_l01Src_posted_v2_l4_step (fun c0 c1 c2 c3 c4 c5 c6 c7 c8 c9 c10 c11 c12 c13 c14 c15 c16 c17 c18 => rec (c0, c1, c2, c3, c4, c5, c6, c7, c8, c9, c10, c11, c12, c13, c14, c15, c16, c17, c18, ())) v.1 v.2.1 v.2.2.1 v.2.2.2.1 v.2.2.2.2.1 v.2.2.2.2.2.1 v.2.2.2.2.2.2.1 v.2.2.2.2.2.2.2.1 v.2.2.2.2.2.2.2.2.1 v.2.2.2.2.2.2.2.2.2.1 v.2.2.2.2.2.2.2.2.2.2.1 v.2.2.2.2.2.2.2.2.2.2.2.1 v.2.2.2.2.2.2.2.2.2.2.2.2.1 v.2.2.2.2.2.2.2.2.2.2.2.2.2.1 v.2.2.2.2.2.2.2.2.2.2.2.2.2.2.1 v.2.2.2.2.2.2.2.2.2.2.2.2.2.2.2.1 v.2.2.2.2.2.2.2.2.2.2.2.2.2.2.2.2.1 v.2.2.2.2.2.2.2.2.2.2.2.2.2.2.2.2.2.1 v.2.2.2.2.2.2.2.2.2.2.2.2.2.2.2.2.2.2.1 := by intro rec v; kernel_rfl
noncomputable def spec_l01Src_posted_v2.E : Env := ⟨D, [0], [(146, spec_l01Src_queueIn_v2.ent), (46, spec_l01Src_n_v2.ent), (147, spec_l01Min.ent), (45, spec_l01Src_bufs_v2.ent), (9, spec_PostChain.ent), (47, spec_l01Src_one_v2.ent), (41, spec_SetWord.ent), (148, spec_l04Put.ent)], [(4, spec_l01Src_posted_v2_l4.ent)]⟩
noncomputable def spec_l01Src_posted_v2 (a0 : List Int) (a1 : Int) (a2 : Int) (a3 : Int) : Option (ByteArray × Int × Int × Int × Int × Int × Int × List Int × Int × Int × Int × Unit) :=
 (spec_l01Src_queueIn_v2 a0 a1 a2 a3).bind fun r1 =>
 (spec_l01Src_n_v2 r1.2.2.2.2.2.2.2.1 r1.2.2.2.2.2.2.2.2.1 r1.2.2.2.2.2.2.2.2.2.1 r1.2.2.2.2.2.2.2.2.2.2.1 4).bind fun r2 =>
 (spec_l01Src_posted_v2_l4 K0 r1.1 0 r2.1 r2.2.1 r2.2.2.1 r2.2.2.2.1 r2.2.2.2.2.1 0 0 0 0 0 0 r1.2.1 r1.2.2.1 r1.2.2.2.1 r1.2.2.2.2.1 r1.2.2.2.2.2.1 r1.2.2.2.2.2.2.1).bind fun o45 =>
 (spec_l01Src_one_v2 o45.2.1 o45.2.2.1 o45.2.2.2.1 o45.2.2.2.2.1 4).bind fun r46 =>
 bif r46.1 then
  (spec_l01Src_n_v2 r46.2.1 r46.2.2.1 r46.2.2.2.1 r46.2.2.2.2.1 o45.2.2.2.2.2.2.2.2.2.2.2.1).bind fun r47 =>
  let x48 : Int := (wrap64 ((16 : Int) * r47.1))
  (spec_l01Src_n_v2 r47.2.1 r47.2.2.1 r47.2.2.2.1 r47.2.2.2.2.1 5).bind fun r49 =>
  let r50 : Int × List Int × Int × Int × Int × Unit := (spec_l01Src_n_v2 r49.2.1 r49.2.2.1 r49.2.2.2.1 r49.2.2.2.2.1 8).getD (0, [], 0, 0, 0, ())
  let r51 : ByteArray × Unit := (spec_SetWord o45.1 (wrap64 (x48 + 8)) r50.1).getD (ByteArray.empty, ())
  let r52 : Int × List Int × Int × Int × Int × Unit := (spec_l01Src_n_v2 r49.2.1 r49.2.2.1 r49.2.2.2.1 r49.2.2.2.2.1 10).getD (0, [], 0, 0, 0, ())
  let r53 : ByteArray × Unit := (spec_SetWord o45.1 (wrap64 (x48 + 12)) r52.1).getD (ByteArray.empty, ())
  let r54 : Int × List Int × Int × Int × Int × Unit := (spec_l01Src_n_v2 r49.2.1 r49.2.2.1 r49.2.2.2.1 r49.2.2.2.2.1 20).getD (0, [], 0, 0, 0, ())
  let x55 : Int := (wrap64 (o45.2.2.2.2.2.2.2.2.2.2.2.2.2.2.2.1 + r54.1))
  let r56 : ByteArray × Unit := (spec_SetWord o45.1 132 x55).getD (ByteArray.empty, ())
  let r57 : Int × List Int × Int × Int × Int × Unit := (spec_l01Src_n_v2 r49.2.1 r49.2.2.1 r49.2.2.2.1 r49.2.2.2.2.1 o45.2.2.2.2.2.2.2.2.2.2.2.1).getD (0, [], 0, 0, 0, ())
  let x58 : Int := (wrap64 ((4 : Int) * r57.1))
  let x59 : Int := (wrap64 ((136 : Int) + x58))
  let r60 : Int × List Int × Int × Int × Int × Unit := (spec_l01Src_n_v2 r57.2.1 r57.2.2.1 r57.2.2.2.1 r57.2.2.2.2.1 12).getD (0, [], 0, 0, 0, ())
  let r61 : ByteArray × Unit := (spec_SetWord o45.1 x59 r60.1).getD (ByteArray.empty, ())
  let l62 : List Int := ([16, 32, 48, 8, 272] : List Int)
  let r63 : Int × List Int × Int × Int × Int × Unit := (spec_l01Src_n_v2 r49.2.1 r49.2.2.1 r49.2.2.2.1 r49.2.2.2.2.1 5).getD (0, [], 0, 0, 0, ())
  let l64 : List Int := [1024, (rd (.int .i64) l62 r63.1), 4, 0]
  let r65 : ByteArray × Unit := (spec_l04Put o45.1 x48 l64).getD (ByteArray.empty, ())
  let r66 : Int × List Int × Int × Int × Int × Unit := (spec_l01Src_n_v2 r63.2.1 r63.2.2.1 r63.2.2.2.1 r63.2.2.2.2.1 6).getD (0, [], 0, 0, 0, ())
  let r67 : Int × List Int × Int × Int × Int × Unit := (spec_l01Src_n_v2 r66.2.1 r66.2.2.1 r66.2.2.2.1 r66.2.2.2.2.1 3).getD (0, [], 0, 0, 0, ())
  let r68 : Int × List Int × Int × Int × Int × Unit := (spec_l01Src_n_v2 r67.2.1 r67.2.2.1 r67.2.2.2.1 r67.2.2.2.2.1 4).getD (0, [], 0, 0, 0, ())
  let r69 : Int × List Int × Int × Int × Int × Unit := (spec_l01Src_n_v2 r68.2.1 r68.2.2.1 r68.2.2.2.1 r68.2.2.2.2.1 4).getD (0, [], 0, 0, 0, ())
  let l70 : List Int := [512, 20, r66.1, r67.1, 600, 8, r68.1, r69.1, 700, 4, 2, 0]
  let r71 : ByteArray × Unit := (spec_l04Put r65.1 1024 l70).getD (ByteArray.empty, ())
  let s72 : ByteArray := (bif (r49.1 == 4) then r71.1 else o45.1)
  let x75 : Int := (bif (r49.1 == 4) then o45.2.2.2.2.2.2.2.2.2.2.2.1 else o45.2.2.2.2.2.2.2.2.2.2.2.1)
  let l83 : List Int := (bif (r49.1 == 4) then r69.2.1 else r49.2.1)
  let x84 : Int := (bif (r49.1 == 4) then r69.2.2.1 else r49.2.2.1)
  let x85 : Int := (bif (r49.1 == 4) then r69.2.2.2.1 else r49.2.2.2.1)
  let x86 : Int := (bif (r49.1 == 4) then r69.2.2.2.2.1 else r49.2.2.2.2.1)
  let x93 : Int := (bif (r49.1 == 4) then o45.2.2.2.2.2.2.2.2.2.2.2.2.1 else o45.2.2.2.2.2.2.2.2.2.2.2.2.1)
  let x94 : Int := (bif (r49.1 == 4) then o45.2.2.2.2.2.2.2.2.2.2.2.2.2.1 else o45.2.2.2.2.2.2.2.2.2.2.2.2.2.1)
  let x95 : Int := (bif (r49.1 == 4) then o45.2.2.2.2.2.2.2.2.2.2.2.2.2.2.1 else o45.2.2.2.2.2.2.2.2.2.2.2.2.2.2.1)
  let x96 : Int := (bif (r49.1 == 4) then o45.2.2.2.2.2.2.2.2.2.2.2.2.2.2.2.1 else o45.2.2.2.2.2.2.2.2.2.2.2.2.2.2.2.1)
  let x97 : Int := (bif (r49.1 == 4) then o45.2.2.2.2.2.2.2.2.2.2.2.2.2.2.2.2.1 else o45.2.2.2.2.2.2.2.2.2.2.2.2.2.2.2.2.1)
  let s98 : ByteArray := (bif (r49.1 == 3) then r61.1 else s72)
  let x101 : Int := (bif (r49.1 == 3) then o45.2.2.2.2.2.2.2.2.2.2.2.1 else x75)
  let l108 : List Int := (bif (r49.1 == 3) then r60.2.1 else l83)
  let x109 : Int := (bif (r49.1 == 3) then r60.2.2.1 else x84)
  let x110 : Int := (bif (r49.1 == 3) then r60.2.2.2.1 else x85)
  let x111 : Int := (bif (r49.1 == 3) then r60.2.2.2.2.1 else x86)
  let x118 : Int := (bif (r49.1 == 3) then o45.2.2.2.2.2.2.2.2.2.2.2.2.1 else x93)
  let x119 : Int := (bif (r49.1 == 3) then o45.2.2.2.2.2.2.2.2.2.2.2.2.2.1 else x94)
  let x120 : Int := (bif (r49.1 == 3) then o45.2.2.2.2.2.2.2.2.2.2.2.2.2.2.1 else x95)
  let x121 : Int := (bif (r49.1 == 3) then o45.2.2.2.2.2.2.2.2.2.2.2.2.2.2.2.1 else x96)
  let x122 : Int := (bif (r49.1 == 3) then o45.2.2.2.2.2.2.2.2.2.2.2.2.2.2.2.2.1 else x97)
  let s123 : ByteArray := (bif (r49.1 == 2) then r56.1 else s98)
  let x126 : Int := (bif (r49.1 == 2) then o45.2.2.2.2.2.2.2.2.2.2.2.1 else x101)
  let l132 : List Int := (bif (r49.1 == 2) then r54.2.1 else l108)
  let x133 : Int := (bif (r49.1 == 2) then r54.2.2.1 else x109)
  let x134 : Int := (bif (r49.1 == 2) then r54.2.2.2.1 else x110)
  let x135 : Int := (bif (r49.1 == 2) then r54.2.2.2.2.1 else x111)
  let x142 : Int := (bif (r49.1 == 2) then o45.2.2.2.2.2.2.2.2.2.2.2.2.1 else x118)
  let x143 : Int := (bif (r49.1 == 2) then o45.2.2.2.2.2.2.2.2.2.2.2.2.2.1 else x119)
  let x144 : Int := (bif (r49.1 == 2) then o45.2.2.2.2.2.2.2.2.2.2.2.2.2.2.1 else x120)
  let x145 : Int := (bif (r49.1 == 2) then o45.2.2.2.2.2.2.2.2.2.2.2.2.2.2.2.1 else x121)
  let x146 : Int := (bif (r49.1 == 2) then o45.2.2.2.2.2.2.2.2.2.2.2.2.2.2.2.2.1 else x122)
  let s147 : ByteArray := (bif (r49.1 == 1) then r53.1 else s123)
  let x150 : Int := (bif (r49.1 == 1) then o45.2.2.2.2.2.2.2.2.2.2.2.1 else x126)
  let l155 : List Int := (bif (r49.1 == 1) then r52.2.1 else l132)
  let x156 : Int := (bif (r49.1 == 1) then r52.2.2.1 else x133)
  let x157 : Int := (bif (r49.1 == 1) then r52.2.2.2.1 else x134)
  let x158 : Int := (bif (r49.1 == 1) then r52.2.2.2.2.1 else x135)
  let x165 : Int := (bif (r49.1 == 1) then o45.2.2.2.2.2.2.2.2.2.2.2.2.1 else x142)
  let x166 : Int := (bif (r49.1 == 1) then o45.2.2.2.2.2.2.2.2.2.2.2.2.2.1 else x143)
  let x167 : Int := (bif (r49.1 == 1) then o45.2.2.2.2.2.2.2.2.2.2.2.2.2.2.1 else x144)
  let x168 : Int := (bif (r49.1 == 1) then o45.2.2.2.2.2.2.2.2.2.2.2.2.2.2.2.1 else x145)
  let x169 : Int := (bif (r49.1 == 1) then o45.2.2.2.2.2.2.2.2.2.2.2.2.2.2.2.2.1 else x146)
  let s170 : ByteArray := (bif (r49.1 == 0) then r51.1 else s147)
  let x173 : Int := (bif (r49.1 == 0) then o45.2.2.2.2.2.2.2.2.2.2.2.1 else x150)
  let l177 : List Int := (bif (r49.1 == 0) then r50.2.1 else l155)
  let x178 : Int := (bif (r49.1 == 0) then r50.2.2.1 else x156)
  let x179 : Int := (bif (r49.1 == 0) then r50.2.2.2.1 else x157)
  let x180 : Int := (bif (r49.1 == 0) then r50.2.2.2.2.1 else x158)
  let x187 : Int := (bif (r49.1 == 0) then o45.2.2.2.2.2.2.2.2.2.2.2.2.1 else x165)
  let x188 : Int := (bif (r49.1 == 0) then o45.2.2.2.2.2.2.2.2.2.2.2.2.2.1 else x166)
  let x189 : Int := (bif (r49.1 == 0) then o45.2.2.2.2.2.2.2.2.2.2.2.2.2.2.1 else x167)
  let x190 : Int := (bif (r49.1 == 0) then o45.2.2.2.2.2.2.2.2.2.2.2.2.2.2.2.1 else x168)
  let x191 : Int := (bif (r49.1 == 0) then o45.2.2.2.2.2.2.2.2.2.2.2.2.2.2.2.2.1 else x169)
  bif (!(r49.1 == 0) || ((spec_l01Src_n_v2 r49.2.1 r49.2.2.1 r49.2.2.2.1 r49.2.2.2.2.1 8).isSome)) && ((!(r49.1 == 0) || ((spec_SetWord o45.1 (wrap64 (x48 + 8)) r50.1).isSome)) && ((!(!(r49.1 == 0)) || (!(r49.1 == 1) || ((spec_l01Src_n_v2 r49.2.1 r49.2.2.1 r49.2.2.2.1 r49.2.2.2.2.1 10).isSome))) && ((!(!(r49.1 == 0)) || (!(r49.1 == 1) || ((spec_SetWord o45.1 (wrap64 (x48 + 12)) r52.1).isSome))) && ((!(!(r49.1 == 0)) || (!(!(r49.1 == 1)) || (!(r49.1 == 2) || ((spec_l01Src_n_v2 r49.2.1 r49.2.2.1 r49.2.2.2.1 r49.2.2.2.2.1 20).isSome)))) && ((!(!(r49.1 == 0)) || (!(!(r49.1 == 1)) || (!(r49.1 == 2) || ((spec_SetWord o45.1 132 x55).isSome)))) && ((!(!(r49.1 == 0)) || (!(!(r49.1 == 1)) || (!(!(r49.1 == 2)) || (!(r49.1 == 3) || ((spec_l01Src_n_v2 r49.2.1 r49.2.2.1 r49.2.2.2.1 r49.2.2.2.2.1 o45.2.2.2.2.2.2.2.2.2.2.2.1).isSome))))) && ((!(!(r49.1 == 0)) || (!(!(r49.1 == 1)) || (!(!(r49.1 == 2)) || (!(r49.1 == 3) || ((spec_l01Src_n_v2 r57.2.1 r57.2.2.1 r57.2.2.2.1 r57.2.2.2.2.1 12).isSome))))) && ((!(!(r49.1 == 0)) || (!(!(r49.1 == 1)) || (!(!(r49.1 == 2)) || (!(r49.1 == 3) || ((spec_SetWord o45.1 x59 r60.1).isSome))))) && ((!(!(r49.1 == 0)) || (!(!(r49.1 == 1)) || (!(!(r49.1 == 2)) || (!(!(r49.1 == 3)) || (!(r49.1 == 4) || ((spec_l01Src_n_v2 r49.2.1 r49.2.2.1 r49.2.2.2.1 r49.2.2.2.2.1 5).isSome)))))) && ((!(!(r49.1 == 0)) || (!(!(r49.1 == 1)) || (!(!(r49.1 == 2)) || (!(!(r49.1 == 3)) || (!(r49.1 == 4) || (decide (0 ≤ r63.1) && decide (r63.1 < (l62.length : Int)))))))) && ((!(!(r49.1 == 0)) || (!(!(r49.1 == 1)) || (!(!(r49.1 == 2)) || (!(!(r49.1 == 3)) || (!(r49.1 == 4) || ((spec_l04Put o45.1 x48 l64).isSome)))))) && ((!(!(r49.1 == 0)) || (!(!(r49.1 == 1)) || (!(!(r49.1 == 2)) || (!(!(r49.1 == 3)) || (!(r49.1 == 4) || ((spec_l01Src_n_v2 r63.2.1 r63.2.2.1 r63.2.2.2.1 r63.2.2.2.2.1 6).isSome)))))) && ((!(!(r49.1 == 0)) || (!(!(r49.1 == 1)) || (!(!(r49.1 == 2)) || (!(!(r49.1 == 3)) || (!(r49.1 == 4) || ((spec_l01Src_n_v2 r66.2.1 r66.2.2.1 r66.2.2.2.1 r66.2.2.2.2.1 3).isSome)))))) && ((!(!(r49.1 == 0)) || (!(!(r49.1 == 1)) || (!(!(r49.1 == 2)) || (!(!(r49.1 == 3)) || (!(r49.1 == 4) || ((spec_l01Src_n_v2 r67.2.1 r67.2.2.1 r67.2.2.2.1 r67.2.2.2.2.1 4).isSome)))))) && ((!(!(r49.1 == 0)) || (!(!(r49.1 == 1)) || (!(!(r49.1 == 2)) || (!(!(r49.1 == 3)) || (!(r49.1 == 4) || ((spec_l01Src_n_v2 r68.2.1 r68.2.2.1 r68.2.2.2.1 r68.2.2.2.2.1 4).isSome)))))) && (!(!(r49.1 == 0)) || (!(!(r49.1 == 1)) || (!(!(r49.1 == 2)) || (!(!(r49.1 == 3)) || (!(r49.1 == 4) || ((spec_l04Put r65.1 1024 l70).isSome))))))))))))))))))))) then
   some (s170, x173, x187, x188, x189, x190, x191, l177, x178, x179, x180, ())
  else none
 else
  let x192 : Int := o45.2.2.2.2.2.2.2.2.2.2.2.1
  let x193 : Int := o45.2.2.2.2.2.2.2.2.2.2.2.2.1
  let x194 : Int := o45.2.2.2.2.2.2.2.2.2.2.2.2.2.1
  let x195 : Int := o45.2.2.2.2.2.2.2.2.2.2.2.2.2.2.1
  let x196 : Int := o45.2.2.2.2.2.2.2.2.2.2.2.2.2.2.2.1
  let x197 : Int := o45.2.2.2.2.2.2.2.2.2.2.2.2.2.2.2.2.1
  some (o45.1, x192, x193, x194, x195, x196, x197, r46.2.1, r46.2.2.1, r46.2.2.2.1, r46.2.2.2.2.1, ())
noncomputable def spec_l01Src_posted_v2.ent : Entry := ⟨[true], [.agg [.val .imm (.slice (.int .u8)), .val .bor (.int .i64), .val .bor (.int .u64), .val .bor (.int .i64)]], [.cell (.val .bor (.str)), .agg [.val .bor (.int .i64), .val .bor (.int .i64), .val .bor (.int .i64), .val .bor (.int .i64), .val .bor (.int .i64), .val .bor (.int .i64)]], [.agg [.val .imm (.slice (.int .u8)), .val .bor (.int .i64), .val .bor (.int .u64), .val .bor (.int .i64)]], fun v => spec_l01Src_posted_v2 v.1 v.2.1 v.2.2.1 v.2.2.2.1⟩
theorem spec_l01Src_posted_v2.eq : ∀ v, evFn spec_l01Src_posted_v2.E f111 spec_l01Src_posted_v2.ent.ptrs spec_l01Src_posted_v2.ent.ins spec_l01Src_posted_v2.ent.rets spec_l01Src_posted_v2.ent.outs v = spec_l01Src_posted_v2.ent.f v := by intro v; kernel_rfl
theorem spec_l01Src_posted_v2.fok : ∀ q ∈ [((146 : Nat), spec_l01Src_queueIn_v2.ent), ((46 : Nat), spec_l01Src_n_v2.ent), ((147 : Nat), spec_l01Min.ent), ((45 : Nat), spec_l01Src_bufs_v2.ent), ((9 : Nat), spec_PostChain.ent), ((47 : Nat), spec_l01Src_one_v2.ent), ((41 : Nat), spec_SetWord.ent), ((148 : Nat), spec_l04Put.ent)], EntryOK Pr q.1 q.2 := by
 intro q hq
 simp only [List.mem_cons, List.mem_nil_iff, or_false] at hq
 rcases hq with rfl | rfl | rfl | rfl | rfl | rfl | rfl | rfl
 · exact spec_l01Src_queueIn_v2.ok
 · exact spec_l01Src_n_v2.ok
 · exact spec_l01Min.ok
 · exact spec_l01Src_bufs_v2.ok
 · exact spec_PostChain.ok
 · exact spec_l01Src_one_v2.ok
 · exact spec_SetWord.ok
 · exact spec_l04Put.ok
theorem spec_l01Src_posted_v2_l4.it : ∀ n v, iter (evStep spec_l01Src_posted_v2.E4 (bodyAt 4 f111) spec_l01Src_posted_v2_l4.ent.ins spec_l01Src_posted_v2_l4.ent.rts spec_l01Src_posted_v2_l4.ent.hm spec_l01Src_posted_v2_l4.ent.nl spec_l01Src_posted_v2_l4.ent.xs) n v = spec_l01Src_posted_v2_l4 n v.1 v.2.1 v.2.2.1 v.2.2.2.1 v.2.2.2.2.1 v.2.2.2.2.2.1 v.2.2.2.2.2.2.1 v.2.2.2.2.2.2.2.1 v.2.2.2.2.2.2.2.2.1 v.2.2.2.2.2.2.2.2.2.1 v.2.2.2.2.2.2.2.2.2.2.1 v.2.2.2.2.2.2.2.2.2.2.2.1 v.2.2.2.2.2.2.2.2.2.2.2.2.1 v.2.2.2.2.2.2.2.2.2.2.2.2.2.1 v.2.2.2.2.2.2.2.2.2.2.2.2.2.2.1 v.2.2.2.2.2.2.2.2.2.2.2.2.2.2.2.1 v.2.2.2.2.2.2.2.2.2.2.2.2.2.2.2.2.1 v.2.2.2.2.2.2.2.2.2.2.2.2.2.2.2.2.2.1 v.2.2.2.2.2.2.2.2.2.2.2.2.2.2.2.2.2.2.1 := by
 intro n
 induction n with
 | zero => intro v; rfl
 | succ n ih =>
  intro v
  show (evStep spec_l01Src_posted_v2.E4 (bodyAt 4 f111) spec_l01Src_posted_v2_l4.ent.ins spec_l01Src_posted_v2_l4.ent.rts spec_l01Src_posted_v2_l4.ent.hm spec_l01Src_posted_v2_l4.ent.nl spec_l01Src_posted_v2_l4.ent.xs) (iter (evStep spec_l01Src_posted_v2.E4 (bodyAt 4 f111) spec_l01Src_posted_v2_l4.ent.ins spec_l01Src_posted_v2_l4.ent.rts spec_l01Src_posted_v2_l4.ent.hm spec_l01Src_posted_v2_l4.ent.nl spec_l01Src_posted_v2_l4.ent.xs) n) v = _
  rw [spec_l01Src_posted_v2_l4.eq, show (fun c0 c1 c2 c3 c4 c5 c6 c7 c8 c9 c10 c11 c12 c13 c14 c15 c16 c17 c18 => iter (evStep spec_l01Src_posted_v2.E4 (bodyAt 4 f111) spec_l01Src_posted_v2_l4.ent.ins spec_l01Src_posted_v2_l4.ent.rts spec_l01Src_posted_v2_l4.ent.hm spec_l01Src_posted_v2_l4.ent.nl spec_l01Src_posted_v2_l4.ent.xs) n (c0, c1, c2, c3, c4, c5, c6, c7, c8, c9, c10, c11, c12, c13, c14, c15, c16, c17, c18, ())) = spec_l01Src_posted_v2_l4 n from by funext c0 c1 c2 c3 c4 c5 c6 c7 c8 c9 c10 c11 c12 c13 c14 c15 c16 c17 c18; exact ih _]
  rfl
theorem spec_l01Src_posted_v2_l4.fr : firstRegion (bodyAt 4 f111) = 4 := by kernel_rfl
theorem spec_l01Src_posted_v2_l4.ls : loopsOf (bodyAt 4 f111) = [] := by kernel_rfl
theorem spec_l01Src_posted_v2_l4.lok {E : Env} (hpin : spec_l01Src_posted_v2.E4.pin = E.pin) (hfind : find 4 E.loops = some spec_l01Src_posted_v2_l4.ent) : LoopOK Pr E (bodyAt 4 f111) :=
 loop_of (E1 := spec_l01Src_posted_v2.E4) (EnvOK.of dok spec_l01Src_posted_v2.fok) mixed hpin (by rw [spec_l01Src_posted_v2_l4.fr]; exact hfind) spec_l01Src_posted_v2_l4.ls (by intro l hl; simp at hl) (fun v => (spec_l01Src_posted_v2_l4.it K0 v).symm)
theorem spec_l01Src_posted_v2.ls : loopsOf (bodyOf f111) = [bodyAt 4 f111] := by kernel_rfl
theorem spec_l01Src_posted_v2.ok : EntryOK Pr 111 spec_l01Src_posted_v2.ent :=
 entry_ok (E := spec_l01Src_posted_v2.E) (EnvOK.of dok spec_l01Src_posted_v2.fok) mixed (fn := f111) (by kernel_rfl) (by kernel_rfl) (by decide) spec_l01Src_posted_v2.ls (by intro l hl; simp only [List.mem_singleton] at hl; subst hl; exact spec_l01Src_posted_v2_l4.lok rfl rfl) spec_l01Src_posted_v2.eq
/-! ### (*loop.example/g00038/spec.l01Src).anyPosted -/
noncomputable def spec_l01Src_anyPosted_v2.E : Env := ⟨D, [0], [(111, spec_l01Src_posted_v2.ent), (47, spec_l01Src_one_v2.ent), (46, spec_l01Src_n_v2.ent)], []⟩
noncomputable def spec_l01Src_anyPosted_v2 (a0 : List Int) (a1 : Int) (a2 : Int) (a3 : Int) : Option (ByteArray × Int × Int × Int × Int × Int × Int × List Int × Int × Int × Int × Unit) :=
 (spec_l01Src_posted_v2 a0 a1 a2 a3).bind fun r1 =>
 (spec_l01Src_one_v2 r1.2.2.2.2.2.2.2.1 r1.2.2.2.2.2.2.2.2.1 r1.2.2.2.2.2.2.2.2.2.1 r1.2.2.2.2.2.2.2.2.2.2.1 8).bind fun r2 =>
 bif !r2.1 then
  some (r1.1, r1.2.1, r1.2.2.1, r1.2.2.2.1, r1.2.2.2.2.1, r1.2.2.2.2.2.1, r1.2.2.2.2.2.2.1, r2.2.1, r2.2.2.1, r2.2.2.2.1, r2.2.2.2.2.1, ())
 else
  (spec_l01Src_n_v2 r2.2.1 r2.2.2.1 r2.2.2.2.1 r2.2.2.2.2.1 7).bind fun r3 =>
  let l4 : List Int := ([0, 3, 16, 32] : List Int)
  let r5 : Int × List Int × Int × Int × Int × Unit := (spec_l01Src_n_v2 r3.2.1 r3.2.2.1 r3.2.2.2.1 r3.2.2.2.2.1 4).getD (0, [], 0, 0, 0, ())
  let l6 : List Int := ([-4, 2, 1264] : List Int)
  let r7 : Int × List Int × Int × Int × Int × Unit := (spec_l01Src_n_v2 r3.2.1 r3.2.2.1 r3.2.2.2.1 r3.2.2.2.2.1 3).getD (0, [], 0, 0, 0, ())
  let x8 : Int := (wrap64 ((4 : Int) * r1.2.1))
  let x9 : Int := (wrap64 ((1272 : Int) - x8))
  let r10 : Int × List Int × Int × Int × Int × Unit := (spec_l01Src_n_v2 r3.2.1 r3.2.2.1 r3.2.2.2.1 r3.2.2.2.2.1 4).getD (0, [], 0, 0, 0, ())
  let x11 : Int := (rd (.int .i64) [-4, 130, 1276, x9] r10.1)
  let x12 : Int := (wrap64 ((8 : Int) * r1.2.1))
  let x13 : Int := (wrap64 ((1272 : Int) - x12))
  let r14 : Int × List Int × Int × Int × Int × Unit := (spec_l01Src_n_v2 r3.2.1 r3.2.2.1 r3.2.2.2.1 r3.2.2.2.2.1 4).getD (0, [], 0, 0, 0, ())
  let x15 : Int := (rd (.int .i64) [-4, 177, 1276, x13] r14.1)
  let r16 : Int × List Int × Int × Int × Int × Unit := (spec_l01Src_n_v2 r3.2.1 r3.2.2.1 r3.2.2.2.1 r3.2.2.2.2.1 2).getD (0, [], 0, 0, 0, ())
  let x17 : Int := (rd (.int .i64) ([-1, 65536] : List Int) r16.1)
  let r18 : Int × List Int × Int × Int × Int × Unit := (spec_l01Src_n_v2 r3.2.1 r3.2.2.1 r3.2.2.2.1 r3.2.2.2.2.1 2).getD (0, [], 0, 0, 0, ())
  let x19 : Int := (rd (.int .i64) ([-1, 65536] : List Int) r18.1)
  let s21 : ByteArray := (bif (r3.1 == 6) then r1.1.extract 1 r1.1.size else r1.1)
  let x23 : Int := (bif (r3.1 == 6) then r1.2.1 else r1.2.1)
  let x24 : Int := (bif (r3.1 == 6) then r1.2.2.1 else r1.2.2.1)
  let x25 : Int := (bif (r3.1 == 6) then r1.2.2.2.1 else r1.2.2.2.1)
  let x26 : Int := (bif (r3.1 == 6) then r1.2.2.2.2.1 else r1.2.2.2.2.1)
  let x27 : Int := (bif (r3.1 == 6) then r1.2.2.2.2.2.1 else r1.2.2.2.2.2.1)
  let x28 : Int := (bif (r3.1 == 6) then r1.2.2.2.2.2.2.1 else r1.2.2.2.2.2.2.1)
  let l39 : List Int := (bif (r3.1 == 6) then r3.2.1 else r3.2.1)
  let x40 : Int := (bif (r3.1 == 6) then r3.2.2.1 else r3.2.2.1)
  let x41 : Int := (bif (r3.1 == 6) then r3.2.2.2.1 else r3.2.2.2.1)
  let x42 : Int := (bif (r3.1 == 6) then r3.2.2.2.2.1 else r3.2.2.2.2.1)
  let s45 : ByteArray := (bif (r3.1 == 5) then r1.1 else s21)
  let x47 : Int := (bif (r3.1 == 5) then r1.2.1 else x23)
  let x48 : Int := (bif (r3.1 == 5) then r1.2.2.1 else x24)
  let x49 : Int := (bif (r3.1 == 5) then r1.2.2.2.1 else x25)
  let x50 : Int := (bif (r3.1 == 5) then r1.2.2.2.2.1 else x26)
  let x51 : Int := (bif (r3.1 == 5) then r1.2.2.2.2.2.1 else x27)
  let l62 : List Int := (bif (r3.1 == 5) then r18.2.1 else l39)
  let x63 : Int := (bif (r3.1 == 5) then r18.2.2.1 else x40)
  let x64 : Int := (bif (r3.1 == 5) then r18.2.2.2.1 else x41)
  let x65 : Int := (bif (r3.1 == 5) then r18.2.2.2.2.1 else x42)
  let x67 : Int := (bif (r3.1 == 5) then x19 else x28)
  let s69 : ByteArray := (bif (r3.1 == 4) then r1.1 else s45)
  let x71 : Int := (bif (r3.1 == 4) then r1.2.1 else x47)
  let x72 : Int := (bif (r3.1 == 4) then r1.2.2.1 else x48)
  let x73 : Int := (bif (r3.1 == 4) then r1.2.2.2.1 else x49)
  let x74 : Int := (bif (r3.1 == 4) then r1.2.2.2.2.1 else x50)
  let l85 : List Int := (bif (r3.1 == 4) then r16.2.1 else l62)
  let x86 : Int := (bif (r3.1 == 4) then r16.2.2.1 else x63)
  let x87 : Int := (bif (r3.1 == 4) then r16.2.2.2.1 else x64)
  let x88 : Int := (bif (r3.1 == 4) then r16.2.2.2.2.1 else x65)
  let x90 : Int := (bif (r3.1 == 4) then x17 else x51)
  let x91 : Int := (bif (r3.1 == 4) then r1.2.2.2.2.2.2.1 else x67)
  let s93 : ByteArray := (bif (r3.1 == 3) then r1.1 else s69)
  let x95 : Int := (bif (r3.1 == 3) then r1.2.1 else x71)
  let x96 : Int := (bif (r3.1 == 3) then r1.2.2.1 else x72)
  let x97 : Int := (bif (r3.1 == 3) then r1.2.2.2.1 else x73)
  let l108 : List Int := (bif (r3.1 == 3) then r14.2.1 else l85)
  let x109 : Int := (bif (r3.1 == 3) then r14.2.2.1 else x86)
  let x110 : Int := (bif (r3.1 == 3) then r14.2.2.2.1 else x87)
  let x111 : Int := (bif (r3.1 == 3) then r14.2.2.2.2.1 else x88)
  let x113 : Int := (bif (r3.1 == 3) then x15 else x74)
  let x114 : Int := (bif (r3.1 == 3) then r1.2.2.2.2.2.1 else x90)
  let x115 : Int := (bif (r3.1 == 3) then r1.2.2.2.2.2.2.1 else x91)
  let s117 : ByteArray := (bif (r3.1 == 2) then r1.1 else s93)
  let x119 : Int := (bif (r3.1 == 2) then r1.2.1 else x95)
  let x120 : Int := (bif (r3.1 == 2) then r1.2.2.1 else x96)
  let l131 : List Int := (bif (r3.1 == 2) then r10.2.1 else l108)
  let x132 : Int := (bif (r3.1 == 2) then r10.2.2.1 else x109)
  let x133 : Int := (bif (r3.1 == 2) then r10.2.2.2.1 else x110)
  let x134 : Int := (bif (r3.1 == 2) then r10.2.2.2.2.1 else x111)
  let x136 : Int := (bif (r3.1 == 2) then x11 else x97)
  let x137 : Int := (bif (r3.1 == 2) then r1.2.2.2.2.1 else x113)
  let x138 : Int := (bif (r3.1 == 2) then r1.2.2.2.2.2.1 else x114)
  let x139 : Int := (bif (r3.1 == 2) then r1.2.2.2.2.2.2.1 else x115)
  let s141 : ByteArray := (bif (r3.1 == 1) then r1.1 else s117)
  let x143 : Int := (bif (r3.1 == 1) then r1.2.1 else x119)
  let l154 : List Int := (bif (r3.1 == 1) then r7.2.1 else l131)
  let x155 : Int := (bif (r3.1 == 1) then r7.2.2.1 else x132)
  let x156 : Int := (bif (r3.1 == 1) then r7.2.2.2.1 else x133)
  let x157 : Int := (bif (r3.1 == 1) then r7.2.2.2.2.1 else x134)
  let x159 : Int := (bif (r3.1 == 1) then (rd (.int .i64) l6 r7.1) else x120)
  let x160 : Int := (bif (r3.1 == 1) then r1.2.2.2.1 else x136)
  let x161 : Int := (bif (r3.1 == 1) then r1.2.2.2.2.1 else x137)
  let x162 : Int := (bif (r3.1 == 1) then r1.2.2.2.2.2.1 else x138)
  let x163 : Int := (bif (r3.1 == 1) then r1.2.2.2.2.2.2.1 else x139)
  let s165 : ByteArray := (bif (r3.1 == 0) then r1.1 else s141)
  let l177 : List Int := (bif (r3.1 == 0) then r5.2.1 else l154)
  let x178 : Int := (bif (r3.1 == 0) then r5.2.2.1 else x155)
  let x179 : Int := (bif (r3.1 == 0) then r5.2.2.2.1 else x156)
  let x180 : Int := (bif (r3.1 == 0) then r5.2.2.2.2.1 else x157)
  let x182 : Int := (bif (r3.1 == 0) then (rd (.int .i64) l4 r5.1) else x143)
  let x183 : Int := (bif (r3.1 == 0) then r1.2.2.1 else x159)
  let x184 : Int := (bif (r3.1 == 0) then r1.2.2.2.1 else x160)
  let x185 : Int := (bif (r3.1 == 0) then r1.2.2.2.2.1 else x161)
  let x186 : Int := (bif (r3.1 == 0) then r1.2.2.2.2.2.1 else x162)
  let x187 : Int := (bif (r3.1 == 0) then r1.2.2.2.2.2.2.1 else x163)
  bif (!(r3.1 == 0) || ((spec_l01Src_n_v2 r3.2.1 r3.2.2.1 r3.2.2.2.1 r3.2.2.2.2.1 4).isSome)) && ((!(r3.1 == 0) || (decide (0 ≤ r5.1) && decide (r5.1 < (l4.length : Int)))) && ((!(!(r3.1 == 0)) || (!(r3.1 == 1) || ((spec_l01Src_n_v2 r3.2.1 r3.2.2.1 r3.2.2.2.1 r3.2.2.2.2.1 3).isSome))) && ((!(!(r3.1 == 0)) || (!(r3.1 == 1) || (decide (0 ≤ r7.1) && decide (r7.1 < (l6.length : Int))))) && ((!(!(r3.1 == 0)) || (!(!(r3.1 == 1)) || (!(r3.1 == 2) || ((spec_l01Src_n_v2 r3.2.1 r3.2.2.1 r3.2.2.2.1 r3.2.2.2.2.1 4).isSome)))) && ((!(!(r3.1 == 0)) || (!(!(r3.1 == 1)) || (!(r3.1 == 2) || (decide (0 ≤ r10.1) && decide (r10.1 < ([-4, 130, 1276, x9].length : Int)))))) && ((!(!(r3.1 == 0)) || (!(!(r3.1 == 1)) || (!(!(r3.1 == 2)) || (!(r3.1 == 3) || ((spec_l01Src_n_v2 r3.2.1 r3.2.2.1 r3.2.2.2.1 r3.2.2.2.2.1 4).isSome))))) && ((!(!(r3.1 == 0)) || (!(!(r3.1 == 1)) || (!(!(r3.1 == 2)) || (!(r3.1 == 3) || (decide (0 ≤ r14.1) && decide (r14.1 < ([-4, 177, 1276, x13].length : Int))))))) && ((!(!(r3.1 == 0)) || (!(!(r3.1 == 1)) || (!(!(r3.1 == 2)) || (!(!(r3.1 == 3)) || (!(r3.1 == 4) || ((spec_l01Src_n_v2 r3.2.1 r3.2.2.1 r3.2.2.2.1 r3.2.2.2.2.1 2).isSome)))))) && ((!(!(r3.1 == 0)) || (!(!(r3.1 == 1)) || (!(!(r3.1 == 2)) || (!(!(r3.1 == 3)) || (!(r3.1 == 4) || (decide (0 ≤ r16.1) && decide (r16.1 < (([-1, 65536] : List Int).length : Int)))))))) && ((!(!(r3.1 == 0)) || (!(!(r3.1 == 1)) || (!(!(r3.1 == 2)) || (!(!(r3.1 == 3)) || (!(!(r3.1 == 4)) || (!(r3.1 == 5) || ((spec_l01Src_n_v2 r3.2.1 r3.2.2.1 r3.2.2.2.1 r3.2.2.2.2.1 2).isSome))))))) && ((!(!(r3.1 == 0)) || (!(!(r3.1 == 1)) || (!(!(r3.1 == 2)) || (!(!(r3.1 == 3)) || (!(!(r3.1 == 4)) || (!(r3.1 == 5) || (decide (0 ≤ r18.1) && decide (r18.1 < (([-1, 65536] : List Int).length : Int))))))))) && (!(!(r3.1 == 0)) || (!(!(r3.1 == 1)) || (!(!(r3.1 == 2)) || (!(!(r3.1 == 3)) || (!(!(r3.1 == 4)) || (!(!(r3.1 == 5)) || (!(r3.1 == 6) || (decide (0 ≤ (1 : Int)) && decide ((1 : Int) ≤ (r1.1.size : Int))))))))))))))))))))) then
   some (s165, x182, x183, x184, x185, x186, x187, l177, x178, x179, x180, ())
  else none
noncomputable def spec_l01Src_anyPosted_v2.ent : Entry := ⟨[true], [.agg [.val .imm (.slice (.int .u8)), .val .bor (.int .i64), .val .bor (.int .u64), .val .bor (.int .i64)]], [.cell (.val .bor (.str)), .agg [.val .bor (.int .i64), .val .bor (.int .i64), .val .bor (.int .i64), .val .bor (.int .i64), .val .bor (.int .i64), .val .bor (.int .i64)]], [.agg [.val .imm (.slice (.int .u8)), .val .bor (.int .i64), .val .bor (.int .u64), .val .bor (.int .i64)]], fun v => spec_l01Src_anyPosted_v2 v.1 v.2.1 v.2.2.1 v.2.2.2.1⟩
theorem spec_l01Src_anyPosted_v2.eq : ∀ v, evFn spec_l01Src_anyPosted_v2.E f44 spec_l01Src_anyPosted_v2.ent.ptrs spec_l01Src_anyPosted_v2.ent.ins spec_l01Src_anyPosted_v2.ent.rets spec_l01Src_anyPosted_v2.ent.outs v = spec_l01Src_anyPosted_v2.ent.f v := by intro v; kernel_rfl
theorem spec_l01Src_anyPosted_v2.fok : ∀ q ∈ [((111 : Nat), spec_l01Src_posted_v2.ent), ((47 : Nat), spec_l01Src_one_v2.ent), ((46 : Nat), spec_l01Src_n_v2.ent)], EntryOK Pr q.1 q.2 := by
 intro q hq
 simp only [List.mem_cons, List.mem_nil_iff, or_false] at hq
 rcases hq with rfl | rfl | rfl
 · exact spec_l01Src_posted_v2.ok
 · exact spec_l01Src_one_v2.ok
 · exact spec_l01Src_n_v2.ok
theorem spec_l01Src_anyPosted_v2.ls : loopsOf (bodyOf f44) = [] := by kernel_rfl
theorem spec_l01Src_anyPosted_v2.ok : EntryOK Pr 44 spec_l01Src_anyPosted_v2.ent :=
 entry_ok (E := spec_l01Src_anyPosted_v2.E) (EnvOK.of dok spec_l01Src_anyPosted_v2.fok) mixed (fn := f44) (by kernel_rfl) (by kernel_rfl) (by decide) spec_l01Src_anyPosted_v2.ls (by intro l hl; simp at hl) spec_l01Src_anyPosted_v2.eq
/-! ### loop.example/g00038/spec.DrawPostChain -/
noncomputable def spec_DrawPostChain_v3.E : Env := ⟨D, [], [(43, spec_l01Source_v3.ent), (44, spec_l01Src_anyPosted_v2.ent), (46, spec_l01Src_n_v2.ent), (45, spec_l01Src_bufs_v2.ent), (47, spec_l01Src_one_v2.ent)], []⟩
noncomputable def spec_DrawPostChain_v3 (a0 : List Int) : Option (ByteArray × Int × Int × Int × Int × Int × Int × Int × List V1 × Unit) :=
 (spec_l01Source_v3 a0).bind fun r1 =>
 (spec_l01Src_anyPosted_v2 r1.1 r1.2.1 r1.2.2.1 r1.2.2.2.1).bind fun r2 =>
 (spec_l01Src_n_v2 r2.2.2.2.2.2.2.2.1 r2.2.2.2.2.2.2.2.2.1 r2.2.2.2.2.2.2.2.2.2.1 r2.2.2.2.2.2.2.2.2.2.2.1 6).bind fun r3 =>
 (spec_l01Src_bufs_v2 r3.2.1 r3.2.2.1 r3.2.2.2.1 r3.2.2.2.2.1 r3.1).bind fun r4 =>
 (spec_l01Src_one_v2 r4.2.1 r4.2.2.1 r4.2.2.2.1 r4.2.2.2.2.1 12).bind fun r5 =>
 let b6 : Bool := decide ((r4.1.length : Int) > 0)
 let l7 : List Int := ([-1, 4294967296] : List Int)
 let r8 : Int × List Int × Int × Int × Int × Unit := (spec_l01Src_n_v2 r5.2.1 r5.2.2.1 r5.2.2.2.1 r5.2.2.2.2.1 2).getD (0, [], 0, 0, 0, ())
 let e9 : V1 := rd R1 r4.1 0
 let l10 : List V1 := r4.1.set 0 (e9.1, (rd (.int .i64) l7 r8.1), e9.2.2)
 let s14 : ByteArray := (bif (r5.1 && b6) then r2.1 else r2.1)
 let x15 : Int := (bif (r5.1 && b6) then r2.2.1 else r2.2.1)
 let x16 : Int := (bif (r5.1 && b6) then r2.2.2.1 else r2.2.2.1)
 let x17 : Int := (bif (r5.1 && b6) then r2.2.2.2.1 else r2.2.2.2.1)
 let x18 : Int := (bif (r5.1 && b6) then r2.2.2.2.2.1 else r2.2.2.2.2.1)
 let x19 : Int := (bif (r5.1 && b6) then r2.2.2.2.2.2.1 else r2.2.2.2.2.2.1)
 let x20 : Int := (bif (r5.1 && b6) then r2.2.2.2.2.2.2.1 else r2.2.2.2.2.2.2.1)
 let l26 : List Int := (bif (r5.1 && b6) then r8.2.1 else r5.2.1)
 let x27 : Int := (bif (r5.1 && b6) then r8.2.2.1 else r5.2.2.1)
 let x28 : Int := (bif (r5.1 && b6) then r8.2.2.2.1 else r5.2.2.2.1)
 let x29 : Int := (bif (r5.1 && b6) then r8.2.2.2.2.1 else r5.2.2.2.2.1)
 let l30 : List V1 := (bif (r5.1 && b6) then l10 else r4.1)
 bif (!(r5.1 && b6) || ((spec_l01Src_n_v2 r5.2.1 r5.2.2.1 r5.2.2.2.1 r5.2.2.2.2.1 2).isSome)) && ((!(r5.1 && b6) || (decide (0 ≤ r8.1) && decide (r8.1 < (l7.length : Int)))) && (!(r5.1 && b6) || (decide (0 ≤ (0 : Int)) && decide ((0 : Int) < (r4.1.length : Int))))) then
  (spec_l01Src_n_v2 l26 x27 x28 x29 (wrap64 (x15 + 2))).bind fun r31 =>
  (spec_l01Src_n_v2 r31.2.1 r31.2.2.1 r31.2.2.2.1 r31.2.2.2.2.1 2).bind fun r32 =>
  some (s14, x15, x16, x17, x18, x19, x20, (wrap64 (r31.1 - r32.1)), l30, ())
 else none
noncomputable def spec_DrawPostChain_v3.ent : Entry := ⟨[false], [.cell (.val .imm (.slice (.int .u8)))], [.cell (.val .bor (.str)), .agg [.val .bor (.int .i64), .val .bor (.int .i64), .val .bor (.int .i64), .val .bor (.int .i64), .val .bor (.int .i64), .val .bor (.int .i64)], .cell (.val .bor (.int .i64)), .cell (.val .own (.slice R1))], [], fun v => spec_DrawPostChain_v3 v.1⟩
theorem spec_DrawPostChain_v3.eq : ∀ v, evFn spec_DrawPostChain_v3.E f8 spec_DrawPostChain_v3.ent.ptrs spec_DrawPostChain_v3.ent.ins spec_DrawPostChain_v3.ent.rets spec_DrawPostChain_v3.ent.outs v = spec_DrawPostChain_v3.ent.f v := by intro v; kernel_rfl
theorem spec_DrawPostChain_v3.fok : ∀ q ∈ [((43 : Nat), spec_l01Source_v3.ent), ((44 : Nat), spec_l01Src_anyPosted_v2.ent), ((46 : Nat), spec_l01Src_n_v2.ent), ((45 : Nat), spec_l01Src_bufs_v2.ent), ((47 : Nat), spec_l01Src_one_v2.ent)], EntryOK Pr q.1 q.2 := by
 intro q hq
 simp only [List.mem_cons, List.mem_nil_iff, or_false] at hq
 rcases hq with rfl | rfl | rfl | rfl | rfl
 · exact spec_l01Source_v3.ok
 · exact spec_l01Src_anyPosted_v2.ok
 · exact spec_l01Src_n_v2.ok
 · exact spec_l01Src_bufs_v2.ok
 · exact spec_l01Src_one_v2.ok
theorem spec_DrawPostChain_v3.ls : loopsOf (bodyOf f8) = [] := by kernel_rfl
theorem spec_DrawPostChain_v3.ok : EntryOK Pr 8 spec_DrawPostChain_v3.ent :=
 entry_ok (E := spec_DrawPostChain_v3.E) (EnvOK.of dok spec_DrawPostChain_v3.fok) mixed (fn := f8) (by kernel_rfl) (by kernel_rfl) (by decide) spec_DrawPostChain_v3.ls (by intro l hl; simp at hl) spec_DrawPostChain_v3.eq
/-! ### loop.example/g00038/impl.ybig -/
noncomputable def impl_ybig.E2 : Env := ⟨D, [], [], []⟩
noncomputable def impl_ybig_l2_step (rec : List ByteArray → Int → Int → Option ((Bool × Unit) ⊕ (Unit))) (y0 : List ByteArray) (y1 : Int) (y2 : Int) : Option ((Bool × Unit) ⊕ (Unit)) :=
 bif decide (y2 < y1) then
  bif decide (0 ≤ y2) && decide (y2 < (y0.length : Int)) then
   let b1 : Bool := decide (((rd (.str) y0 y2).size : Int) > 65536)
   bif b1 then
    some (Sum.inl (true, ()))
   else
    rec y0 y1 (wrap64 (y2 + 1))
  else none
 else
  some (Sum.inr ())
noncomputable def impl_ybig_l2 : Nat → List ByteArray → Int → Int → Option ((Bool × Unit) ⊕ (Unit))
 | 0 => fun _ _ _ => none
 | n + 1 => impl_ybig_l2_step (impl_ybig_l2 n)
noncomputable def impl_ybig_l2.ent : LEntry := ⟨sk 5 (.cell (.val .bor (.slice (.str))) :: (.cell (.val .bor (.int .i64)) :: (.cell (.val .bor (.int .i64)) :: (sk 7 [])))), rk 15 [], [], [], [⟨none, sk 2 (.cell (.val .bor (.bool)) :: (sk 12 [])), rk 15 [], [], []⟩, ⟨some 0, sk 15 [], rk 15 [], [], []⟩], fun v => impl_ybig_l2 K0 v.1 v.2.1 v.2.2.1⟩
theorem impl_ybig_l2.eq : ∀ rec v, evStep impl_ybig.E2 (bodyAt 2 f52) impl_ybig_l2.ent.ins impl_ybig_l2.ent.rts impl_ybig_l2.ent.hm impl_ybig_l2.ent.nl impl_ybig_l2.ent.xs rec v = impl_ybig_l2_step (fun c0 c1 c2 => rec (c0, c1, c2, ())) v.1 v.2.1 v.2.2.1 := by intro rec v; kernel_rfl
noncomputable def impl_ybig.E : Env := ⟨D, [], [], [(2, impl_ybig_l2.ent)]⟩
noncomputable def impl_ybig (a0 : List ByteArray) : Option (Bool × Unit) :=
 (impl_ybig_l2 K0 a0 (a0.length : Int) 0).bind fun o2 =>
 match o2 with
 | Sum.inl p3 =>
  some (p3.1, ())
 | Sum.inr p4 =>
  some (false, ())
noncomputable def impl_ybig.ent : Entry := ⟨[false], [.cell (.val .bor (.slice (.str)))], [.cell (.val .bor (.bool))], [], fun v => impl_ybig v.1⟩
theorem impl_ybig.eq : ∀ v, evFn impl_ybig.E f52 impl_ybig.ent.ptrs impl_ybig.ent.ins impl_ybig.ent.rets impl_ybig.ent.outs v = impl_ybig.ent.f v := by intro v; kernel_rfl
theorem impl_ybig.fok : ∀ q ∈ ([] : List (Nat × Entry)), EntryOK Pr q.1 q.2 := by intro q hq; simp at hq
theorem impl_ybig_l2.it : ∀ n v, iter (evStep impl_ybig.E2 (bodyAt 2 f52) impl_ybig_l2.ent.ins impl_ybig_l2.ent.rts impl_ybig_l2.ent.hm impl_ybig_l2.ent.nl impl_ybig_l2.ent.xs) n v = impl_ybig_l2 n v.1 v.2.1 v.2.2.1 := by
 intro n
 induction n with
 | zero => intro v; rfl
 | succ n ih =>
  intro v
  show (evStep impl_ybig.E2 (bodyAt 2 f52) impl_ybig_l2.ent.ins impl_ybig_l2.ent.rts impl_ybig_l2.ent.hm impl_ybig_l2.ent.nl impl_ybig_l2.ent.xs) (iter (evStep impl_ybig.E2 (bodyAt 2 f52) impl_ybig_l2.ent.ins impl_ybig_l2.ent.rts impl_ybig_l2.ent.hm impl_ybig_l2.ent.nl impl_ybig_l2.ent.xs) n) v = _
  rw [impl_ybig_l2.eq, show (fun c0 c1 c2 => iter (evStep impl_ybig.E2 (bodyAt 2 f52) impl_ybig_l2.ent.ins impl_ybig_l2.ent.rts impl_ybig_l2.ent.hm impl_ybig_l2.ent.nl impl_ybig_l2.ent.xs) n (c0, c1, c2, ())) = impl_ybig_l2 n from by funext c0 c1 c2; exact ih _]
  rfl
theorem impl_ybig_l2.fr : firstRegion (bodyAt 2 f52) = 2 := by kernel_rfl
theorem impl_ybig_l2.ls : loopsOf (bodyAt 2 f52) = [] := by kernel_rfl
theorem impl_ybig_l2.lok {E : Env} (hpin : impl_ybig.E2.pin = E.pin) (hfind : find 2 E.loops = some impl_ybig_l2.ent) : LoopOK Pr E (bodyAt 2 f52) :=
 loop_of (E1 := impl_ybig.E2) (EnvOK.of dok impl_ybig.fok) mixed hpin (by rw [impl_ybig_l2.fr]; exact hfind) impl_ybig_l2.ls (by intro l hl; simp at hl) (fun v => (impl_ybig_l2.it K0 v).symm)
theorem impl_ybig.ls : loopsOf (bodyOf f52) = [bodyAt 2 f52] := by kernel_rfl
theorem impl_ybig.ok : EntryOK Pr 52 impl_ybig.ent :=
 entry_ok (E := impl_ybig.E) (EnvOK.of dok impl_ybig.fok) mixed (fn := f52) (by kernel_rfl) (by kernel_rfl) (by decide) impl_ybig.ls (by intro l hl; simp only [List.mem_singleton] at hl; subst hl; exact impl_ybig_l2.lok rfl rfl) impl_ybig.eq
/-! ### loop.example/g00038/impl.ymemOk -/
noncomputable def impl_ymemOk.E : Env := ⟨D, [], [], []⟩
noncomputable def impl_ymemOk (a0 : ByteArray) : Option (Bool × Unit) :=
 let b1 : Bool := decide ((a0.size : Int) ≥ 256)
 let b2 : Bool := decide ((a0.size : Int) ≤ 65536)
 let x3 : Int := (Int.tmod (a0.size : Int) 256)
 let b4 : Bool := ((b1 && b2) && (x3 == 0))
 bif (!(b1 && b2) || (!((256 : Int) == 0))) then
  some (b4, ())
 else none
noncomputable def impl_ymemOk.ent : Entry := ⟨[false], [.cell (.val .bor (.str))], [.cell (.val .bor (.bool))], [], fun v => impl_ymemOk v.1⟩
theorem impl_ymemOk.eq : ∀ v, evFn impl_ymemOk.E f72 impl_ymemOk.ent.ptrs impl_ymemOk.ent.ins impl_ymemOk.ent.rets impl_ymemOk.ent.outs v = impl_ymemOk.ent.f v := by intro v; kernel_rfl
theorem impl_ymemOk.fok : ∀ q ∈ ([] : List (Nat × Entry)), EntryOK Pr q.1 q.2 := by intro q hq; simp at hq
theorem impl_ymemOk.ls : loopsOf (bodyOf f72) = [] := by kernel_rfl
theorem impl_ymemOk.ok : EntryOK Pr 72 impl_ymemOk.ent :=
 entry_ok (E := impl_ymemOk.E) (EnvOK.of dok impl_ymemOk.fok) mixed (fn := f72) (by kernel_rfl) (by kernel_rfl) (by decide) impl_ymemOk.ls (by intro l hl; simp at hl) impl_ymemOk.eq
/-! ### slices.Index[[]int64,int64] -/
noncomputable def slices_Index_int64.E2 : Env := ⟨D, [], [], []⟩
noncomputable def slices_Index_int64_l2_step (rec : List Int → Int → Int → Int → Option ((Int × Unit) ⊕ (Unit))) (y0 : List Int) (y1 : Int) (y2 : Int) (y3 : Int) : Option ((Int × Unit) ⊕ (Unit)) :=
 bif decide (y3 < y2) then
  let b1 : Bool := (y1 == (rd (.int .i64) y0 y3))
  bif decide (0 ≤ y3) && decide (y3 < (y0.length : Int)) then
   bif b1 then
    some (Sum.inl (y3, ()))
   else
    rec y0 y1 y2 (wrap64 (y3 + 1))
  else none
 else
  some (Sum.inr ())
noncomputable def slices_Index_int64_l2 : Nat → List Int → Int → Int → Int → Option ((Int × Unit) ⊕ (Unit))
 | 0 => fun _ _ _ _ => none
 | n + 1 => slices_Index_int64_l2_step (slices_Index_int64_l2 n)
noncomputable def slices_Index_int64_l2.ent : LEntry := ⟨(.cell (.val .bor (.slice (.int .i64))) :: (.cell (.val .bor (.int .i64)) :: (sk 5 (.cell (.val .bor (.int .i64)) :: (.cell (.val .bor (.int .i64)) :: (sk 10 [])))))), rk 19 [], [], [], [⟨none, sk 4 (.cell (.val .bor (.int .i64)) :: (sk 14 [])), rk 19 [], [], []⟩, ⟨some 0, sk 19 [], rk 19 [], [], []⟩], fun v => slices_Index_int64_l2 K0 v.1 v.2.1 v.2.2.1 v.2.2.2.1⟩
theorem slices_Index_int64_l2.eq : ∀ rec v, evStep slices_Index_int64.E2 (bodyAt 2 f149) slices_Index_int64_l2.ent.ins slices_Index_int64_l2.ent.rts slices_Index_int64_l2.ent.hm slices_Index_int64_l2.ent.nl slices_Index_int64_l2.ent.xs rec v = slices_Index_int64_l2_step (fun c0 c1 c2 c3 => rec (c0, c1, c2, c3, ())) v.1 v.2.1 v.2.2.1 v.2.2.2.1 := by intro rec v; kernel_rfl
noncomputable def slices_Index_int64.E : Env := ⟨D, [], [], [(2, slices_Index_int64_l2.ent)]⟩
noncomputable def slices_Index_int64 (a0 : List Int) (a1 : Int) : Option (Int × Unit) :=
 (slices_Index_int64_l2 K0 a0 a1 (a0.length : Int) 0).bind fun o2 =>
 match o2 with
 | Sum.inl p3 =>
  some (p3.1, ())
 | Sum.inr p4 =>
  some (-1, ())
noncomputable def slices_Index_int64.ent : Entry := ⟨[false, false], [.cell (.val .bor (.slice (.int .i64))), .cell (.val .bor (.int .i64))], [.cell (.val .bor (.int .i64))], [], fun v => slices_Index_int64 v.1 v.2.1⟩
theorem slices_Index_int64.eq : ∀ v, evFn slices_Index_int64.E f149 slices_Index_int64.ent.ptrs slices_Index_int64.ent.ins slices_Index_int64.ent.rets slices_Index_int64.ent.outs v = slices_Index_int64.ent.f v := by intro v; kernel_rfl
theorem slices_Index_int64.fok : ∀ q ∈ ([] : List (Nat × Entry)), EntryOK Pr q.1 q.2 := by intro q hq; simp at hq
theorem slices_Index_int64_l2.it : ∀ n v, iter (evStep slices_Index_int64.E2 (bodyAt 2 f149) slices_Index_int64_l2.ent.ins slices_Index_int64_l2.ent.rts slices_Index_int64_l2.ent.hm slices_Index_int64_l2.ent.nl slices_Index_int64_l2.ent.xs) n v = slices_Index_int64_l2 n v.1 v.2.1 v.2.2.1 v.2.2.2.1 := by
 intro n
 induction n with
 | zero => intro v; rfl
 | succ n ih =>
  intro v
  show (evStep slices_Index_int64.E2 (bodyAt 2 f149) slices_Index_int64_l2.ent.ins slices_Index_int64_l2.ent.rts slices_Index_int64_l2.ent.hm slices_Index_int64_l2.ent.nl slices_Index_int64_l2.ent.xs) (iter (evStep slices_Index_int64.E2 (bodyAt 2 f149) slices_Index_int64_l2.ent.ins slices_Index_int64_l2.ent.rts slices_Index_int64_l2.ent.hm slices_Index_int64_l2.ent.nl slices_Index_int64_l2.ent.xs) n) v = _
  rw [slices_Index_int64_l2.eq, show (fun c0 c1 c2 c3 => iter (evStep slices_Index_int64.E2 (bodyAt 2 f149) slices_Index_int64_l2.ent.ins slices_Index_int64_l2.ent.rts slices_Index_int64_l2.ent.hm slices_Index_int64_l2.ent.nl slices_Index_int64_l2.ent.xs) n (c0, c1, c2, c3, ())) = slices_Index_int64_l2 n from by funext c0 c1 c2 c3; exact ih _]
  rfl
theorem slices_Index_int64_l2.fr : firstRegion (bodyAt 2 f149) = 2 := by kernel_rfl
theorem slices_Index_int64_l2.ls : loopsOf (bodyAt 2 f149) = [] := by kernel_rfl
theorem slices_Index_int64_l2.lok {E : Env} (hpin : slices_Index_int64.E2.pin = E.pin) (hfind : find 2 E.loops = some slices_Index_int64_l2.ent) : LoopOK Pr E (bodyAt 2 f149) :=
 loop_of (E1 := slices_Index_int64.E2) (EnvOK.of dok slices_Index_int64.fok) mixed hpin (by rw [slices_Index_int64_l2.fr]; exact hfind) slices_Index_int64_l2.ls (by intro l hl; simp at hl) (fun v => (slices_Index_int64_l2.it K0 v).symm)
theorem slices_Index_int64.ls : loopsOf (bodyOf f149) = [bodyAt 2 f149] := by kernel_rfl
theorem slices_Index_int64.ok : EntryOK Pr 149 slices_Index_int64.ent :=
 entry_ok (E := slices_Index_int64.E) (EnvOK.of dok slices_Index_int64.fok) mixed (fn := f149) (by kernel_rfl) (by kernel_rfl) (by decide) slices_Index_int64.ls (by intro l hl; simp only [List.mem_singleton] at hl; subst hl; exact slices_Index_int64_l2.lok rfl rfl) slices_Index_int64.eq
/-! ### slices.Contains[[]int64,int64] -/
noncomputable def slices_Contains_int64.E : Env := ⟨D, [], [(149, slices_Index_int64.ent)], []⟩
noncomputable def slices_Contains_int64 (a0 : List Int) (a1 : Int) : Option (Bool × Unit) :=
 (slices_Index_int64 a0 a1).bind fun r1 =>
 some (decide (r1.1 ≥ 0), ())
noncomputable def slices_Contains_int64.ent : Entry := ⟨[false, false], [.cell (.val .bor (.slice (.int .i64))), .cell (.val .bor (.int .i64))], [.cell (.val .bor (.bool))], [], fun v => slices_Contains_int64 v.1 v.2.1⟩
theorem slices_Contains_int64.eq : ∀ v, evFn slices_Contains_int64.E f114 slices_Contains_int64.ent.ptrs slices_Contains_int64.ent.ins slices_Contains_int64.ent.rets slices_Contains_int64.ent.outs v = slices_Contains_int64.ent.f v := by intro v; kernel_rfl
theorem slices_Contains_int64.fok : ∀ q ∈ [((149 : Nat), slices_Index_int64.ent)], EntryOK Pr q.1 q.2 := by
 intro q hq
 simp only [List.mem_cons, List.mem_nil_iff, or_false] at hq
 rcases hq with rfl
 · exact slices_Index_int64.ok
theorem slices_Contains_int64.ls : loopsOf (bodyOf f114) = [] := by kernel_rfl
theorem slices_Contains_int64.ok : EntryOK Pr 114 slices_Contains_int64.ent :=
 entry_ok (E := slices_Contains_int64.E) (EnvOK.of dok slices_Contains_int64.fok) mixed (fn := f114) (by kernel_rfl) (by kernel_rfl) (by decide) slices_Contains_int64.ls (by intro l hl; simp at hl) slices_Contains_int64.eq
/-! ### loop.example/g00038/impl.yfits -/
noncomputable def impl_yfits.E : Env := ⟨D, [], [], []⟩
noncomputable def impl_yfits (a0 : Int) (a1 : Int) (a2 : Int) : Option (Bool × Unit) :=
 let b1 : Bool := (decide (a1 ≥ 0) && decide (a2 ≥ 0))
 let b2 : Bool := decide (a2 ≤ (wrap64 (a0 - a1)))
 let b3 : Bool := ((b1 && decide (a1 ≤ a0)) && b2)
 some (b3, ())
noncomputable def impl_yfits.ent : Entry := ⟨[false, false, false], [.cell (.val .bor (.int .i64)), .cell (.val .bor (.int .i64)), .cell (.val .bor (.int .i64))], [.cell (.val .bor (.bool))], [], fun v => impl_yfits v.1 v.2.1 v.2.2.1⟩
theorem impl_yfits.eq : ∀ v, evFn impl_yfits.E f150 impl_yfits.ent.ptrs impl_yfits.ent.ins impl_yfits.ent.rets impl_yfits.ent.outs v = impl_yfits.ent.f v := by intro v; kernel_rfl
theorem impl_yfits.fok : ∀ q ∈ ([] : List (Nat × Entry)), EntryOK Pr q.1 q.2 := by intro q hq; simp at hq
theorem impl_yfits.ls : loopsOf (bodyOf f150) = [] := by kernel_rfl
theorem impl_yfits.ok : EntryOK Pr 150 impl_yfits.ent :=
 entry_ok (E := impl_yfits.E) (EnvOK.of dok impl_yfits.fok) mixed (fn := f150) (by kernel_rfl) (by kernel_rfl) (by decide) impl_yfits.ls (by intro l hl; simp at hl) impl_yfits.eq
/-! ### loop.example/g00038/impl.yplace -/
noncomputable def impl_yplace.E : Env := ⟨D, [], [(150, impl_yfits.ent)], []⟩
noncomputable def impl_yplace (a0 : ByteArray) (a1 : Int) (a2 : Int) : Option (Bool × Unit) :=
 let r1 : Bool × Unit := (impl_yfits (a0.size : Int) a1 a2).getD (false, ())
 let b2 : Bool := (((Int.tmod a1 4) == 0) && r1.1)
 bif (!((4 : Int) == 0)) && (!((Int.tmod a1 4) == 0) || ((impl_yfits (a0.size : Int) a1 a2).isSome)) then
  some (b2, ())
 else none
noncomputable def impl_yplace.ent : Entry := ⟨[false, false, false], [.cell (.val .bor (.str)), .cell (.val .bor (.int .i64)), .cell (.val .bor (.int .i64))], [.cell (.val .bor (.bool))], [], fun v => impl_yplace v.1 v.2.1 v.2.2.1⟩
theorem impl_yplace.eq : ∀ v, evFn impl_yplace.E f115 impl_yplace.ent.ptrs impl_yplace.ent.ins impl_yplace.ent.rets impl_yplace.ent.outs v = impl_yplace.ent.f v := by intro v; kernel_rfl
theorem impl_yplace.fok : ∀ q ∈ [((150 : Nat), impl_yfits.ent)], EntryOK Pr q.1 q.2 := by
 intro q hq
 simp only [List.mem_cons, List.mem_nil_iff, or_false] at hq
 rcases hq with rfl
 · exact impl_yfits.ok
theorem impl_yplace.ls : loopsOf (bodyOf f115) = [] := by kernel_rfl
theorem impl_yplace.ok : EntryOK Pr 115 impl_yplace.ent :=
 entry_ok (E := impl_yplace.E) (EnvOK.of dok impl_yplace.fok) mixed (fn := f115) (by kernel_rfl) (by kernel_rfl) (by decide) impl_yplace.ls (by intro l hl; simp at hl) impl_yplace.eq
/-! ### loop.example/g00038/impl.yin -/
noncomputable def impl_yin.E : Env := ⟨D, [], [], []⟩
noncomputable def impl_yin (a0 : Int) (a1 : Int) (a2 : Int) : Option (Bool × Unit) :=
 let b1 : Bool := (decide (a0 ≥ a1) && decide (a0 ≤ a2))
 some (b1, ())
noncomputable def impl_yin.ent : Entry := ⟨[false, false, false], [.cell (.val .bor (.int .i64)), .cell (.val .bor (.int .i64)), .cell (.val .bor (.int .i64))], [.cell (.val .bor (.bool))], [], fun v => impl_yin v.1 v.2.1 v.2.2.1⟩
theorem impl_yin.eq : ∀ v, evFn impl_yin.E f54 impl_yin.ent.ptrs impl_yin.ent.ins impl_yin.ent.rets impl_yin.ent.outs v = impl_yin.ent.f v := by intro v; kernel_rfl
theorem impl_yin.fok : ∀ q ∈ ([] : List (Nat × Entry)), EntryOK Pr q.1 q.2 := by intro q hq; simp at hq
theorem impl_yin.ls : loopsOf (bodyOf f54) = [] := by kernel_rfl
theorem impl_yin.ok : EntryOK Pr 54 impl_yin.ent :=
 entry_ok (E := impl_yin.E) (EnvOK.of dok impl_yin.fok) mixed (fn := f54) (by kernel_rfl) (by kernel_rfl) (by decide) impl_yin.ls (by intro l hl; simp at hl) impl_yin.eq
/-! ### loop.example/g00038/impl.QueueFault -/
noncomputable def impl_QueueFault.E : Env := ⟨D, [], [(72, impl_ymemOk.ent), (114, slices_Contains_int64.ent), (115, impl_yplace.ent), (54, impl_yin.ent)], []⟩
noncomputable def impl_QueueFault (a0 : ByteArray) (a1 : Int) (a2 : Int) (a3 : Int) (a4 : Int) (a5 : Int) (a6 : Int) : Option (Int × Unit) :=
 (impl_ymemOk a0).bind fun r1 =>
 let l2 : List Int := ([1, 2, 4, 8, 16] : List Int)
 let r3 : Bool × Unit := (slices_Contains_int64 l2 a1).getD (false, ())
 let x4 : Int := (wrap64 ((16 : Int) * a1))
 let r5 : Bool × Unit := (impl_yplace a0 a2 x4).getD (false, ())
 let b6 : Bool := ((!r1.1 || !r3.1) || !r5.1)
 let x7 : Int := (wrap64 ((4 : Int) * a1))
 let x8 : Int := (wrap64 ((8 : Int) + x7))
 let r9 : Bool × Unit := (impl_yplace a0 a3 x8).getD (false, ())
 let x10 : Int := (wrap64 ((8 : Int) * a1))
 let x11 : Int := (wrap64 ((8 : Int) + x10))
 let r12 : Bool × Unit := (impl_yplace a0 a4 x11).getD (false, ())
 let b13 : Bool := ((b6 || !r9.1) || !r12.1)
 let r14 : Bool × Unit := (impl_yin a5 0 65535).getD (false, ())
 let r15 : Bool × Unit := (impl_yin a6 0 65535).getD (false, ())
 let b16 : Bool := ((b13 || !r14.1) || !r15.1)
 bif (!(!(!r1.1)) || ((slices_Contains_int64 l2 a1).isSome)) && ((!(!(!r1.1 || !r3.1)) || ((impl_yplace a0 a2 x4).isSome)) && ((!(!b6) || ((impl_yplace a0 a3 x8).isSome)) && ((!(!(b6 || !r9.1)) || ((impl_yplace a0 a4 x11).isSome)) && ((!(!b13) || ((impl_yin a5 0 65535).isSome)) && (!(!(b13 || !r14.1)) || ((impl_yin a6 0 65535).isSome)))))) then
  bif b16 then
   some (1, ())
  else
   some (0, ())
 else none
noncomputable def impl_QueueFault.ent : Entry := ⟨[false, false], [.cell (.val .bor (.str)), .agg [.val .bor (.int .i64), .val .bor (.int .i64), .val .bor (.int .i64), .val .bor (.int .i64), .val .bor (.int .i64), .val .bor (.int .i64)]], [.cell (.val .bor (.int .i64))], [], fun v => impl_QueueFault v.1 v.2.1 v.2.2.1 v.2.2.2.1 v.2.2.2.2.1 v.2.2.2.2.2.1 v.2.2.2.2.2.2.1⟩
theorem impl_QueueFault.eq : ∀ v, evFn impl_QueueFault.E f53 impl_QueueFault.ent.ptrs impl_QueueFault.ent.ins impl_QueueFault.ent.rets impl_QueueFault.ent.outs v = impl_QueueFault.ent.f v := by intro v; kernel_rfl
theorem impl_QueueFault.fok : ∀ q ∈ [((72 : Nat), impl_ymemOk.ent), ((114 : Nat), slices_Contains_int64.ent), ((115 : Nat), impl_yplace.ent), ((54 : Nat), impl_yin.ent)], EntryOK Pr q.1 q.2 := by
 intro q hq
 simp only [List.mem_cons, List.mem_nil_iff, or_false] at hq
 rcases hq with rfl | rfl | rfl | rfl
 · exact impl_ymemOk.ok
 · exact slices_Contains_int64.ok
 · exact impl_yplace.ok
 · exact impl_yin.ok
theorem impl_QueueFault.ls : loopsOf (bodyOf f53) = [] := by kernel_rfl
theorem impl_QueueFault.ok : EntryOK Pr 53 impl_QueueFault.ent :=
 entry_ok (E := impl_QueueFault.E) (EnvOK.of dok impl_QueueFault.fok) mixed (fn := f53) (by kernel_rfl) (by kernel_rfl) (by decide) impl_QueueFault.ls (by intro l hl; simp at hl) impl_QueueFault.eq
/-! ### loop.example/g00038/impl.yisWord -/
noncomputable def impl_yisWord.E : Env := ⟨D, [], [], []⟩
noncomputable def impl_yisWord (a0 : Int) : Option (Bool × Unit) :=
 let b1 : Bool := (decide (a0 ≥ 0) && decide (a0 < 4294967296))
 some (b1, ())
noncomputable def impl_yisWord.ent : Entry := ⟨[false], [.cell (.val .bor (.int .i64))], [.cell (.val .bor (.bool))], [], fun v => impl_yisWord v.1⟩
theorem impl_yisWord.eq : ∀ v, evFn impl_yisWord.E f57 impl_yisWord.ent.ptrs impl_yisWord.ent.ins impl_yisWord.ent.rets impl_yisWord.ent.outs v = impl_yisWord.ent.f v := by intro v; kernel_rfl
theorem impl_yisWord.fok : ∀ q ∈ ([] : List (Nat × Entry)), EntryOK Pr q.1 q.2 := by intro q hq; simp at hq
theorem impl_yisWord.ls : loopsOf (bodyOf f57) = [] := by kernel_rfl
theorem impl_yisWord.ok : EntryOK Pr 57 impl_yisWord.ent :=
 entry_ok (E := impl_yisWord.E) (EnvOK.of dok impl_yisWord.fok) mixed (fn := f57) (by kernel_rfl) (by kernel_rfl) (by decide) impl_yisWord.ls (by intro l hl; simp at hl) impl_yisWord.eq
/-! ### loop.example/g00038/impl.PostChain$1 -/
noncomputable def impl_PostChain_1.E : Env := ⟨D, [], [(57, impl_yisWord.ent)], []⟩
noncomputable def impl_PostChain_1 (a0 : Int) (a1 : Int) (a2 : Bool) : Option (Bool × Unit) :=
 (impl_yisWord a0).bind fun r1 =>
 let r2 : Bool × Unit := (impl_yisWord a1).getD (false, ())
 bif (!(!(!r1.1)) || ((impl_yisWord a1).isSome)) then
  some ((!r1.1 || !r2.1), ())
 else none
noncomputable def impl_PostChain_1.ent : Entry := ⟨[false], [.agg [.val .bor (.int .i64), .val .bor (.int .i64), .val .bor (.bool)]], [.cell (.val .bor (.bool))], [], fun v => impl_PostChain_1 v.1 v.2.1 v.2.2.1⟩
theorem impl_PostChain_1.eq : ∀ v, evFn impl_PostChain_1.E f56 impl_PostChain_1.ent.ptrs impl_PostChain_1.ent.ins impl_PostChain_1.ent.rets impl_PostChain_1.ent.outs v = impl_PostChain_1.ent.f v := by intro v; kernel_rfl
theorem impl_PostChain_1.fok : ∀ q ∈ [((57 : Nat), impl_yisWord.ent)], EntryOK Pr q.1 q.2 := by
 intro q hq
 simp only [List.mem_cons, List.mem_nil_iff, or_false] at hq
 rcases hq with rfl
 · exact impl_yisWord.ok
theorem impl_PostChain_1.ls : loopsOf (bodyOf f56) = [] := by kernel_rfl
theorem impl_PostChain_1.ok : EntryOK Pr 56 impl_PostChain_1.ent :=
 entry_ok (E := impl_PostChain_1.E) (EnvOK.of dok impl_PostChain_1.fok) mixed (fn := f56) (by kernel_rfl) (by kernel_rfl) (by decide) impl_PostChain_1.ls (by intro l hl; simp at hl) impl_PostChain_1.eq
/-! ### slices.IndexFunc[[]loop.example/g00038/impl.Buf,loop.example/g00038/impl.Buf] -/
noncomputable def slices_IndexFunc_Buf.E2 : Env := ⟨D, [], [(56, impl_PostChain_1.ent)], []⟩
noncomputable def slices_IndexFunc_Buf_l2_step (rec : List V1 → Int → Int → Option ((Int × Unit) ⊕ (Unit))) (y0 : List V1) (y1 : Int) (y2 : Int) : Option ((Int × Unit) ⊕ (Unit)) :=
 bif decide (y2 < y1) then
  let e1 : V1 := rd R1 y0 y2
  (impl_PostChain_1 e1.1 e1.2.1 e1.2.2).bind fun r2 =>
  bif decide (0 ≤ y2) && decide (y2 < (y0.length : Int)) then
   bif r2.1 then
    some (Sum.inl (y2, ()))
   else
    rec y0 y1 (wrap64 (y2 + 1))
  else none
 else
  some (Sum.inr ())
noncomputable def slices_IndexFunc_Buf_l2 : Nat → List V1 → Int → Int → Option ((Int × Unit) ⊕ (Unit))
 | 0 => fun _ _ _ => none
 | n + 1 => slices_IndexFunc_Buf_l2_step (slices_IndexFunc_Buf_l2 n)
noncomputable def slices_IndexFunc_Buf_l2.ent : LEntry := ⟨(.cell (.val .bor (.slice R1)) :: (.cell (.fix (.clo 56 [])) :: (sk 5 (.cell (.val .bor (.int .i64)) :: (.cell (.val .bor (.int .i64)) :: (sk 10 [])))))), rk 19 [], [], [], [⟨none, sk 4 (.cell (.val .bor (.int .i64)) :: (sk 14 [])), rk 19 [], [], []⟩, ⟨some 0, sk 19 [], rk 19 [], [], []⟩], fun v => slices_IndexFunc_Buf_l2 K0 v.1 v.2.1 v.2.2.1⟩
theorem slices_IndexFunc_Buf_l2.eq : ∀ rec v, evStep slices_IndexFunc_Buf.E2 (bodyAt 2 f116) slices_IndexFunc_Buf_l2.ent.ins slices_IndexFunc_Buf_l2.ent.rts slices_IndexFunc_Buf_l2.ent.hm slices_IndexFunc_Buf_l2.ent.nl slices_IndexFunc_Buf_l2.ent.xs rec v = slices_IndexFunc_Buf_l2_step (fun c0 c1 c2 => rec (c0, c1, c2, ())) v.1 v.2.1 v.2.2.1 := by intro rec v; kernel_rfl
noncomputable def slices_IndexFunc_Buf.E : Env := ⟨D, [], [(56, impl_PostChain_1.ent)], [(2, slices_IndexFunc_Buf_l2.ent)]⟩
noncomputable def slices_IndexFunc_Buf (a0 : List V1) : Option (Int × Unit) :=
 (slices_IndexFunc_Buf_l2 K0 a0 (a0.length : Int) 0).bind fun o3 =>
 match o3 with
 | Sum.inl p4 =>
  some (p4.1, ())
 | Sum.inr p5 =>
  some (-1, ())
noncomputable def slices_IndexFunc_Buf.ent : Entry := ⟨[false, false], [.cell (.val .bor (.slice R1)), .clo 56 []], [.cell (.val .bor (.int .i64))], [], fun v => slices_IndexFunc_Buf v.1⟩
theorem slices_IndexFunc_Buf.eq : ∀ v, evFn slices_IndexFunc_Buf.E f116 slices_IndexFunc_Buf.ent.ptrs slices_IndexFunc_Buf.ent.ins slices_IndexFunc_Buf.ent.rets slices_IndexFunc_Buf.ent.outs v = slices_IndexFunc_Buf.ent.f v := by intro v; kernel_rfl
theorem slices_IndexFunc_Buf.fok : ∀ q ∈ [((56 : Nat), impl_PostChain_1.ent)], EntryOK Pr q.1 q.2 := by
 intro q hq
 simp only [List.mem_cons, List.mem_nil_iff, or_false] at hq
 rcases hq with rfl
 · exact impl_PostChain_1.ok
theorem slices_IndexFunc_Buf_l2.it : ∀ n v, iter (evStep slices_IndexFunc_Buf.E2 (bodyAt 2 f116) slices_IndexFunc_Buf_l2.ent.ins slices_IndexFunc_Buf_l2.ent.rts slices_IndexFunc_Buf_l2.ent.hm slices_IndexFunc_Buf_l2.ent.nl slices_IndexFunc_Buf_l2.ent.xs) n v = slices_IndexFunc_Buf_l2 n v.1 v.2.1 v.2.2.1 := by
 intro n
 induction n with
 | zero => intro v; rfl
 | succ n ih =>
  intro v
  show (evStep slices_IndexFunc_Buf.E2 (bodyAt 2 f116) slices_IndexFunc_Buf_l2.ent.ins slices_IndexFunc_Buf_l2.ent.rts slices_IndexFunc_Buf_l2.ent.hm slices_IndexFunc_Buf_l2.ent.nl slices_IndexFunc_Buf_l2.ent.xs) (iter (evStep slices_IndexFunc_Buf.E2 (bodyAt 2 f116) slices_IndexFunc_Buf_l2.ent.ins slices_IndexFunc_Buf_l2.ent.rts slices_IndexFunc_Buf_l2.ent.hm slices_IndexFunc_Buf_l2.ent.nl slices_IndexFunc_Buf_l2.ent.xs) n) v = _
  rw [slices_IndexFunc_Buf_l2.eq, show (fun c0 c1 c2 => iter (evStep slices_IndexFunc_Buf.E2 (bodyAt 2 f116) slices_IndexFunc_Buf_l2.ent.ins slices_IndexFunc_Buf_l2.ent.rts slices_IndexFunc_Buf_l2.ent.hm slices_IndexFunc_Buf_l2.ent.nl slices_IndexFunc_Buf_l2.ent.xs) n (c0, c1, c2, ())) = slices_IndexFunc_Buf_l2 n from by funext c0 c1 c2; exact ih _]
  rfl
theorem slices_IndexFunc_Buf_l2.fr : firstRegion (bodyAt 2 f116) = 2 := by kernel_rfl
theorem slices_IndexFunc_Buf_l2.ls : loopsOf (bodyAt 2 f116) = [] := by kernel_rfl
theorem slices_IndexFunc_Buf_l2.lok {E : Env} (hpin : slices_IndexFunc_Buf.E2.pin = E.pin) (hfind : find 2 E.loops = some slices_IndexFunc_Buf_l2.ent) : LoopOK Pr E (bodyAt 2 f116) :=
 loop_of (E1 := slices_IndexFunc_Buf.E2) (EnvOK.of dok slices_IndexFunc_Buf.fok) mixed hpin (by rw [slices_IndexFunc_Buf_l2.fr]; exact hfind) slices_IndexFunc_Buf_l2.ls (by intro l hl; simp at hl) (fun v => (slices_IndexFunc_Buf_l2.it K0 v).symm)
theorem slices_IndexFunc_Buf.ls : loopsOf (bodyOf f116) = [bodyAt 2 f116] := by kernel_rfl
theorem slices_IndexFunc_Buf.ok : EntryOK Pr 116 slices_IndexFunc_Buf.ent :=
 entry_ok (E := slices_IndexFunc_Buf.E) (EnvOK.of dok slices_IndexFunc_Buf.fok) mixed (fn := f116) (by kernel_rfl) (by kernel_rfl) (by decide) slices_IndexFunc_Buf.ls (by intro l hl; simp only [List.mem_singleton] at hl; subst hl; exact slices_IndexFunc_Buf_l2.lok rfl rfl) slices_IndexFunc_Buf.eq
/-! ### slices.ContainsFunc[[]loop.example/g00038/impl.Buf,loop.example/g00038/impl.Buf] -/
noncomputable def slices_ContainsFunc_Buf.E : Env := ⟨D, [], [(116, slices_IndexFunc_Buf.ent)], []⟩
noncomputable def slices_ContainsFunc_Buf (a0 : List V1) : Option (Bool × Unit) :=
 (slices_IndexFunc_Buf a0).bind fun r1 =>
 some (decide (r1.1 ≥ 0), ())
noncomputable def slices_ContainsFunc_Buf.ent : Entry := ⟨[false, false], [.cell (.val .bor (.slice R1)), .clo 56 []], [.cell (.val .bor (.bool))], [], fun v => slices_ContainsFunc_Buf v.1⟩
theorem slices_ContainsFunc_Buf.eq : ∀ v, evFn slices_ContainsFunc_Buf.E f55 slices_ContainsFunc_Buf.ent.ptrs slices_ContainsFunc_Buf.ent.ins slices_ContainsFunc_Buf.ent.rets slices_ContainsFunc_Buf.ent.outs v = slices_ContainsFunc_Buf.ent.f v := by intro v; kernel_rfl
theorem slices_ContainsFunc_Buf.fok : ∀ q ∈ [((116 : Nat), slices_IndexFunc_Buf.ent)], EntryOK Pr q.1 q.2 := by
 intro q hq
 simp only [List.mem_cons, List.mem_nil_iff, or_false] at hq
 rcases hq with rfl
 · exact slices_IndexFunc_Buf.ok
theorem slices_ContainsFunc_Buf.ls : loopsOf (bodyOf f55) = [] := by kernel_rfl
theorem slices_ContainsFunc_Buf.ok : EntryOK Pr 55 slices_ContainsFunc_Buf.ent :=
 entry_ok (E := slices_ContainsFunc_Buf.E) (EnvOK.of dok slices_ContainsFunc_Buf.fok) mixed (fn := f55) (by kernel_rfl) (by kernel_rfl) (by decide) slices_ContainsFunc_Buf.ls (by intro l hl; simp at hl) slices_ContainsFunc_Buf.eq
/-! ### loop.example/g00038/impl.PutWord -/
noncomputable def impl_PutWord.E : Env := ⟨D, [], [], []⟩
noncomputable def impl_PutWord (a0 : Int) : Option (ByteArray × Unit) :=
 let x1 : Int := (IntKind.u8.wrap ((IntKind.u32.wrap (a0))))
 let x2 : Int := shr .u32 (IntKind.u32.wrap (a0)) 8
 let x3 : Int := shr .u32 (IntKind.u32.wrap (a0)) 16
 let x4 : Int := shr .u32 (IntKind.u32.wrap (a0)) 24
 let l5 : List Int := [x1, (IntKind.u8.wrap (x2)), (IntKind.u8.wrap (x3)), (IntKind.u8.wrap (x4))]
 bif (decide (0 ≤ (8 : Int))) && ((decide (0 ≤ (16 : Int))) && (decide (0 ≤ (24 : Int)))) then
  some (b2s l5, ())
 else none
noncomputable def impl_PutWord.ent : Entry := ⟨[false], [.cell (.val .bor (.int .i64))], [.cell (.val .bor (.str))], [], fun v => impl_PutWord v.1⟩
theorem impl_PutWord.eq : ∀ v, evFn impl_PutWord.E f118 impl_PutWord.ent.ptrs impl_PutWord.ent.ins impl_PutWord.ent.rets impl_PutWord.ent.outs v = impl_PutWord.ent.f v := by intro v; kernel_rfl
theorem impl_PutWord.fok : ∀ q ∈ ([] : List (Nat × Entry)), EntryOK Pr q.1 q.2 := by intro q hq; simp at hq
theorem impl_PutWord.ls : loopsOf (bodyOf f118) = [] := by kernel_rfl
theorem impl_PutWord.ok : EntryOK Pr 118 impl_PutWord.ent :=
 entry_ok (E := impl_PutWord.E) (EnvOK.of dok impl_PutWord.fok) mixed (fn := f118) (by kernel_rfl) (by kernel_rfl) (by decide) impl_PutWord.ls (by intro l hl; simp at hl) impl_PutWord.eq
/-! ### loop.example/g00038/impl.ysplice -/
noncomputable def impl_ysplice.E : Env := ⟨D, [], [], []⟩
noncomputable def impl_ysplice (a0 : ByteArray) (a1 : Int) (a2 : ByteArray) : Option (ByteArray × Unit) :=
 let s1 : ByteArray := ((a0.extract 0 a1.toNat) ++ a2)
 let x2 : Int := (wrap64 (a1 + (a2.size : Int)))
 let s3 : ByteArray := a0.extract x2.toNat a0.size
 bif (decide (0 ≤ a1) && decide (a1 ≤ (a0.size : Int))) && ((joins (a0.extract 0 a1.toNat) a2) && ((decide (0 ≤ x2) && decide (x2 ≤ (a0.size : Int))) && (joins s1 s3))) then
  some ((s1 ++ s3), ())
 else none
noncomputable def impl_ysplice.ent : Entry := ⟨[false, false, false], [.cell (.val .bor (.str)), .cell (.val .bor (.int .i64)), .cell (.val .bor (.str))], [.cell (.val .bor (.str))], [], fun v => impl_ysplice v.1 v.2.1 v.2.2.1⟩
theorem impl_ysplice.eq : ∀ v, evFn impl_ysplice.E f117 impl_ysplice.ent.ptrs impl_ysplice.ent.ins impl_ysplice.ent.rets impl_ysplice.ent.outs v = impl_ysplice.ent.f v := by intro v; kernel_rfl
theorem impl_ysplice.fok : ∀ q ∈ ([] : List (Nat × Entry)), EntryOK Pr q.1 q.2 := by intro q hq; simp at hq
theorem impl_ysplice.ls : loopsOf (bodyOf f117) = [] := by kernel_rfl
theorem impl_ysplice.ok : EntryOK Pr 117 impl_ysplice.ent :=
 entry_ok (E := impl_ysplice.E) (EnvOK.of dok impl_ysplice.fok) mixed (fn := f117) (by kernel_rfl) (by kernel_rfl) (by decide) impl_ysplice.ls (by intro l hl; simp at hl) impl_ysplice.eq
/-! ### loop.example/g00038/impl.yset -/
noncomputable def impl_yset.E2 : Env := ⟨D, [], [(118, impl_PutWord.ent), (117, impl_ysplice.ent)], []⟩
noncomputable def impl_yset_l2_step (rec : ByteArray → Int → List Int → Int → Int → Option ((ByteArray × Unit))) (y0 : ByteArray) (y1 : Int) (y2 : List Int) (y3 : Int) (y4 : Int) : Option ((ByteArray × Unit)) :=
 bif decide (y4 < y3) then
  bif decide (0 ≤ y4) && decide (y4 < (y2.length : Int)) then
   let x1 : Int := (wrap64 ((4 : Int) * y4))
   (impl_PutWord (rd (.int .i64) y2 y4)).bind fun r2 =>
   (impl_ysplice y0 (wrap64 (y1 + x1)) r2.1).bind fun r3 =>
   rec r3.1 y1 y2 y3 (wrap64 (y4 + 1))
  else none
 else
  some (y0, ())
noncomputable def impl_yset_l2 : Nat → ByteArray → Int → List Int → Int → Int → Option ((ByteArray × Unit))
 | 0 => fun _ _ _ _ _ => none
 | n + 1 => impl_yset_l2_step (impl_yset_l2 n)
noncomputable def impl_yset_l2.ent : LEntry := ⟨(.cell (.val .bor (.str)) :: (.cell (.val .bor (.int .i64)) :: (sk 7 (.cell (.val .bor (.slice (.int .i64))) :: (.cell (.val .bor (.int .i64)) :: (.cell (.val .bor (.int .i64)) :: (sk 14 []))))))), rk 26 [], [], [], [⟨some 0, (.cell (.val .bor (.str)) :: (sk 25 [])), rk 26 [], [], []⟩], fun v => impl_yset_l2 K0 v.1 v.2.1 v.2.2.1 v.2.2.2.1 v.2.2.2.2.1⟩
theorem impl_yset_l2.eq : ∀ rec v, evStep impl_yset.E2 (bodyAt 2 f58) impl_yset_l2.ent.ins impl_yset_l2.ent.rts impl_yset_l2.ent.hm impl_yset_l2.ent.nl impl_yset_l2.ent.xs rec v = impl_yset_l2_step (fun c0 c1 c2 c3 c4 => rec (c0, c1, c2, c3, c4, ())) v.1 v.2.1 v.2.2.1 v.2.2.2.1 v.2.2.2.2.1 := by intro rec v; kernel_rfl
noncomputable def impl_yset.E : Env := ⟨D, [], [(118, impl_PutWord.ent), (117, impl_ysplice.ent)], [(2, impl_yset_l2.ent)]⟩
noncomputable def impl_yset (a0 : ByteArray) (a1 : Int) (a2 : List Int) : Option (ByteArray × Unit) :=
 (impl_yset_l2 K0 a0 a1 a2 (a2.length : Int) 0).bind fun o4 =>
 some (o4.1, ())
noncomputable def impl_yset.ent : Entry := ⟨[false, false, false], [.cell (.val .bor (.str)), .cell (.val .bor (.int .i64)), .cell (.val .bor (.slice (.int .i64)))], [.cell (.val .bor (.str))], [], fun v => impl_yset v.1 v.2.1 v.2.2.1⟩
theorem impl_yset.eq : ∀ v, evFn impl_yset.E f58 impl_yset.ent.ptrs impl_yset.ent.ins impl_yset.ent.rets impl_yset.ent.outs v = impl_yset.ent.f v := by intro v; kernel_rfl
theorem impl_yset.fok : ∀ q ∈ [((118 : Nat), impl_PutWord.ent), ((117 : Nat), impl_ysplice.ent)], EntryOK Pr q.1 q.2 := by
 intro q hq
 simp only [List.mem_cons, List.mem_nil_iff, or_false] at hq
 rcases hq with rfl | rfl
 · exact impl_PutWord.ok
 · exact impl_ysplice.ok
theorem impl_yset_l2.it : ∀ n v, iter (evStep impl_yset.E2 (bodyAt 2 f58) impl_yset_l2.ent.ins impl_yset_l2.ent.rts impl_yset_l2.ent.hm impl_yset_l2.ent.nl impl_yset_l2.ent.xs) n v = impl_yset_l2 n v.1 v.2.1 v.2.2.1 v.2.2.2.1 v.2.2.2.2.1 := by
 intro n
 induction n with
 | zero => intro v; rfl
 | succ n ih =>
  intro v
  show (evStep impl_yset.E2 (bodyAt 2 f58) impl_yset_l2.ent.ins impl_yset_l2.ent.rts impl_yset_l2.ent.hm impl_yset_l2.ent.nl impl_yset_l2.ent.xs) (iter (evStep impl_yset.E2 (bodyAt 2 f58) impl_yset_l2.ent.ins impl_yset_l2.ent.rts impl_yset_l2.ent.hm impl_yset_l2.ent.nl impl_yset_l2.ent.xs) n) v = _
  rw [impl_yset_l2.eq, show (fun c0 c1 c2 c3 c4 => iter (evStep impl_yset.E2 (bodyAt 2 f58) impl_yset_l2.ent.ins impl_yset_l2.ent.rts impl_yset_l2.ent.hm impl_yset_l2.ent.nl impl_yset_l2.ent.xs) n (c0, c1, c2, c3, c4, ())) = impl_yset_l2 n from by funext c0 c1 c2 c3 c4; exact ih _]
  rfl
theorem impl_yset_l2.fr : firstRegion (bodyAt 2 f58) = 2 := by kernel_rfl
theorem impl_yset_l2.ls : loopsOf (bodyAt 2 f58) = [] := by kernel_rfl
theorem impl_yset_l2.lok {E : Env} (hpin : impl_yset.E2.pin = E.pin) (hfind : find 2 E.loops = some impl_yset_l2.ent) : LoopOK Pr E (bodyAt 2 f58) :=
 loop_of (E1 := impl_yset.E2) (EnvOK.of dok impl_yset.fok) mixed hpin (by rw [impl_yset_l2.fr]; exact hfind) impl_yset_l2.ls (by intro l hl; simp at hl) (fun v => (impl_yset_l2.it K0 v).symm)
theorem impl_yset.ls : loopsOf (bodyOf f58) = [bodyAt 2 f58] := by kernel_rfl
theorem impl_yset.ok : EntryOK Pr 58 impl_yset.ent :=
 entry_ok (E := impl_yset.E) (EnvOK.of dok impl_yset.fok) mixed (fn := f58) (by kernel_rfl) (by kernel_rfl) (by decide) impl_yset.ls (by intro l hl; simp only [List.mem_singleton] at hl; subst hl; exact impl_yset_l2.lok rfl rfl) impl_yset.eq
/-! ### loop.example/g00038/impl.ywordAt -/
noncomputable def impl_ywordAt.E : Env := ⟨D, [], [], []⟩
noncomputable def impl_ywordAt (a0 : ByteArray) (a1 : Int) : Option (Int × Unit) :=
 let x1 : Int := (wrap64 (bt a0 (wrap64 (a1 + 1))))
 let x2 : Int := (bits .or .i64 (wrap64 (bt a0 a1)) (shl .i64 x1 8))
 let x3 : Int := (wrap64 (bt a0 (wrap64 (a1 + 2))))
 let x4 : Int := (bits .or .i64 x2 (shl .i64 x3 16))
 let x5 : Int := (wrap64 (bt a0 (wrap64 (a1 + 3))))
 let x6 : Int := (bits .or .i64 x4 (shl .i64 x5 24))
 bif (decide (0 ≤ a1) && decide (a1 < (a0.size : Int))) && ((decide (0 ≤ (wrap64 (a1 + 1))) && decide ((wrap64 (a1 + 1)) < (a0.size : Int))) && ((decide (0 ≤ (8 : Int))) && ((decide (0 ≤ (wrap64 (a1 + 2))) && decide ((wrap64 (a1 + 2)) < (a0.size : Int))) && ((decide (0 ≤ (16 : Int))) && ((decide (0 ≤ (wrap64 (a1 + 3))) && decide ((wrap64 (a1 + 3)) < (a0.size : Int))) && (decide (0 ≤ (24 : Int)))))))) then
  some (x6, ())
 else none
noncomputable def impl_ywordAt.ent : Entry := ⟨[false, false], [.cell (.val .bor (.str)), .cell (.val .bor (.int .i64))], [.cell (.val .bor (.int .i64))], [], fun v => impl_ywordAt v.1 v.2.1⟩
theorem impl_ywordAt.eq : ∀ v, evFn impl_ywordAt.E f59 impl_ywordAt.ent.ptrs impl_ywordAt.ent.ins impl_ywordAt.ent.rets impl_ywordAt.ent.outs v = impl_ywordAt.ent.f v := by intro v; kernel_rfl
theorem impl_ywordAt.fok : ∀ q ∈ ([] : List (Nat × Entry)), EntryOK Pr q.1 q.2 := by intro q hq; simp at hq
theorem impl_ywordAt.ls : loopsOf (bodyOf f59) = [] := by kernel_rfl
theorem impl_ywordAt.ok : EntryOK Pr 59 impl_ywordAt.ent :=
 entry_ok (E := impl_ywordAt.E) (EnvOK.of dok impl_ywordAt.fok) mixed (fn := f59) (by kernel_rfl) (by kernel_rfl) (by decide) impl_ywordAt.ls (by intro l hl; simp at hl) impl_ywordAt.eq
/-! ### loop.example/g00038/impl.PostChain -/
noncomputable def impl_PostChain.E6 : Env := ⟨D, [], [(52, impl_ybig.ent), (53, impl_QueueFault.ent), (54, impl_yin.ent), (55, slices_ContainsFunc_Buf.ent), (58, impl_yset.ent), (59, impl_ywordAt.ent)], []⟩
noncomputable def impl_PostChain_l6_step (rec : ByteArray → Int → List V1 → List V1 → Int → Int → Int → Int → Int → Int → Int → Int → Int → ByteArray → Int → Int → Int → Int → Int → Int → Bool → Option ((ByteArray × Int × Int × Int × Int × Int × Int × Int × Int × ByteArray × Int × Int × Int × Int × Int × Int × Bool × Unit))) (y0 : ByteArray) (y1 : Int) (y2 : List V1) (y3 : List V1) (y4 : Int) (y5 : Int) (y6 : Int) (y7 : Int) (y8 : Int) (y9 : Int) (y10 : Int) (y11 : Int) (y12 : Int) (y13 : ByteArray) (y14 : Int) (y15 : Int) (y16 : Int) (y17 : Int) (y18 : Int) (y19 : Int) (y20 : Bool) : Option ((ByteArray × Int × Int × Int × Int × Int × Int × Int × Int × ByteArray × Int × Int × Int × Int × Int × Int × Bool × Unit)) :=
 bif decide (y5 < y4) then
  let e9 : V1 := rd R1 y3 y5
  bif decide (0 ≤ y5) && decide (y5 < (y3.length : Int)) then
   let x10 : Int := (Int.tmod (wrap64 (y1 + y5)) y6)
   bif !(y6 == 0) then
    let s11 : ByteArray := (bif e9.2.2 then y0 else y0)
    let x12 : Int := (bif e9.2.2 then y1 else y1)
    let l13 : List V1 := (bif e9.2.2 then y2 else y2)
    let x14 : Int := (bif e9.2.2 then y5 else y5)
    let x15 : Int := (bif e9.2.2 then x10 else x10)
    let x16 : Int := (bif e9.2.2 then (bits .or .i64 0 2) else 0)
    let x17 : Int := (bif e9.2.2 then 0 else 0)
    let l18 : List V1 := (bif e9.2.2 then y3 else y3)
    let x19 : Int := (bif e9.2.2 then y4 else y4)
    let x21 : Int := (bif e9.2.2 then e9.1 else e9.1)
    let x22 : Int := (bif e9.2.2 then e9.2.1 else e9.2.1)
    let x25 : Int := (bif e9.2.2 then y6 else y6)
    let x26 : Int := (bif e9.2.2 then y7 else y7)
    let x27 : Int := (bif e9.2.2 then y8 else y8)
    let x28 : Int := (bif e9.2.2 then y9 else y9)
    let x29 : Int := (bif e9.2.2 then y10 else y10)
    let x30 : Int := (bif e9.2.2 then y11 else y11)
    let x31 : Int := (bif e9.2.2 then y12 else y12)
    let s32 : ByteArray := (bif e9.2.2 then y13 else y13)
    let x33 : Int := (bif e9.2.2 then y14 else y14)
    let x34 : Int := (bif e9.2.2 then y15 else y15)
    let x35 : Int := (bif e9.2.2 then y16 else y16)
    let x36 : Int := (bif e9.2.2 then y17 else y17)
    let x37 : Int := (bif e9.2.2 then y18 else y18)
    let x38 : Int := (bif e9.2.2 then y19 else y19)
    let b39 : Bool := (bif e9.2.2 then y20 else y20)
    let x40 : Int := (wrap64 ((l13.length : Int) - 1))
    let x41 : Int := (Int.tmod (wrap64 (x15 + 1)) x25)
    let s42 : ByteArray := (bif decide (x14 < x40) then s11 else s11)
    let x43 : Int := (bif decide (x14 < x40) then x12 else x12)
    let l44 : List V1 := (bif decide (x14 < x40) then l13 else l13)
    let x45 : Int := (bif decide (x14 < x40) then x14 else x14)
    let x46 : Int := (bif decide (x14 < x40) then x15 else x15)
    let x47 : Int := (bif decide (x14 < x40) then (bits .or .i64 x16 1) else x16)
    let x48 : Int := (bif decide (x14 < x40) then x41 else x17)
    let l49 : List V1 := (bif decide (x14 < x40) then l18 else l18)
    let x50 : Int := (bif decide (x14 < x40) then x19 else x19)
    let x52 : Int := (bif decide (x14 < x40) then x21 else x21)
    let x53 : Int := (bif decide (x14 < x40) then x22 else x22)
    let x56 : Int := (bif decide (x14 < x40) then x25 else x25)
    let x60 : Int := (bif decide (x14 < x40) then x26 else x26)
    let x61 : Int := (bif decide (x14 < x40) then x27 else x27)
    let x62 : Int := (bif decide (x14 < x40) then x28 else x28)
    let x63 : Int := (bif decide (x14 < x40) then x29 else x29)
    let x64 : Int := (bif decide (x14 < x40) then x30 else x30)
    let x65 : Int := (bif decide (x14 < x40) then x31 else x31)
    let s66 : ByteArray := (bif decide (x14 < x40) then s32 else s32)
    let x67 : Int := (bif decide (x14 < x40) then x33 else x33)
    let x68 : Int := (bif decide (x14 < x40) then x34 else x34)
    let x69 : Int := (bif decide (x14 < x40) then x35 else x35)
    let x70 : Int := (bif decide (x14 < x40) then x36 else x36)
    let x71 : Int := (bif decide (x14 < x40) then x37 else x37)
    let x72 : Int := (bif decide (x14 < x40) then x38 else x38)
    let b73 : Bool := (bif decide (x14 < x40) then b39 else b39)
    bif (!(decide (x14 < x40)) || (!(x25 == 0))) then
     let x74 : Int := (wrap64 ((16 : Int) * x46))
     (impl_yset s42 (wrap64 (x60 + x74)) [x52, x53, x47, x48]).bind fun r75 =>
     rec r75.1 x43 l44 l49 x50 (wrap64 (x45 + 1)) x56 x60 x61 x62 x63 x64 x65 s66 x67 x68 x69 x70 x71 x72 b73
    else none
   else none
  else none
 else
  some (y0, y1, y6, y7, y8, y9, y10, y11, y12, y13, y14, y15, y16, y17, y18, y19, y20, ())
noncomputable def impl_PostChain_l6 : Nat → ByteArray → Int → List V1 → List V1 → Int → Int → Int → Int → Int → Int → Int → Int → Int → ByteArray → Int → Int → Int → Int → Int → Int → Bool → Option ((ByteArray × Int × Int × Int × Int × Int × Int × Int × Int × ByteArray × Int × Int × Int × Int × Int × Int × Bool × Unit))
 | 0 => fun _ _ _ _ _ _ _ _ _ _ _ _ _ _ _ _ _ _ _ _ _ => none
 | n + 1 => impl_PostChain_l6_step (impl_PostChain_l6 n)
noncomputable def impl_PostChain_l6.ent : LEntry := ⟨(.cell (.val .bor (.str)) :: (sk 1 (.cell (.val .bor (.int .i64)) :: (.cell (.val .bor (.slice R1)) :: (sk 1 (.cell (.fix (.ptr 5 0)) :: (sk 2 (.cell (.fix (.ptr 8 0)) :: (sk 44 (.cell (.val .bor (.slice R1)) :: (.cell (.val .bor (.int .i64)) :: (.cell (.val .bor (.int .i64)) :: (sk 72 []))))))))))))), rk 5 ([.val .bor (.int .i64), .val .bor (.int .i64), .val .bor (.int .i64), .val .bor (.int .i64), .val .bor (.int .i64), .val .bor (.int .i64)] :: (rk 2 ([.val .bor (.int .i64), .val .bor (.str), .val .bor (.int .i64), .val .bor (.int .i64), .val .bor (.int .i64), .val .bor (.int .i64), .val .bor (.int .i64), .val .bor (.int .i64), .val .bor (.bool)] :: (rk 119 [])))), [], [], [⟨some 0, (.cell (.val .bor (.str)) :: (sk 1 (.cell (.val .bor (.int .i64)) :: (sk 2 (.cell (.fix (.ptr 5 0)) :: (sk 2 (.cell (.fix (.ptr 8 0)) :: (sk 119 [])))))))), rk 5 ([.val .bor (.int .i64), .val .bor (.int .i64), .val .bor (.int .i64), .val .bor (.int .i64), .val .bor (.int .i64), .val .bor (.int .i64)] :: (rk 2 ([.val .bor (.int .i64), .val .bor (.str), .val .bor (.int .i64), .val .bor (.int .i64), .val .bor (.int .i64), .val .bor (.int .i64), .val .bor (.int .i64), .val .bor (.int .i64), .val .bor (.bool)] :: (rk 119 [])))), [], []⟩], fun v => impl_PostChain_l6 K0 v.1 v.2.1 v.2.2.1 v.2.2.2.1 v.2.2.2.2.1 v.2.2.2.2.2.1 v.2.2.2.2.2.2.1 v.2.2.2.2.2.2.2.1 v.2.2.2.2.2.2.2.2.1 v.2.2.2.2.2.2.2.2.2.1 v.2.2.2.2.2.2.2.2.2.2.1 v.2.2.2.2.2.2.2.2.2.2.2.1 v.2.2.2.2.2.2.2.2.2.2.2.2.1 v.2.2.2.2.2.2.2.2.2.2.2.2.2.1 v.2.2.2.2.2.2.2.2.2.2.2.2.2.2.1 v.2.2.2.2.2.2.2.2.2.2.2.2.2.2.2.1 v.2.2.2.2.2.2.2.2.2.2.2.2.2.2.2.2.1 v.2.2.2.2.2.2.2.2.2.2.2.2.2.2.2.2.2.1 v.2.2.2.2.2.2.2.2.2.2.2.2.2.2.2.2.2.2.1 v.2.2.2.2.2.2.2.2.2.2.2.2.2.2.2.2.2.2.2.1 v.2.2.2.2.2.2.2.2.2.2.2.2.2.2.2.2.2.2.2.2.1⟩
theorem impl_PostChain_l6.eq : ∀ rec v, evStep impl_PostChain.E6 (bodyAt 6 f10) impl_PostChain_l6.ent.ins impl_PostChain_l6.ent.rts impl_PostChain_l6.ent.hm impl_PostChain_l6.ent.nl impl_PostChain_l6.ent.xs rec v = impl_PostChain_l6_step (fun c0 c1 c2 c3 c4 c5 c6 c7 c8 c9 c10 c11 c12 c13 c14 c15 c16 c17 c18 c19 c20 => rec (c0, c1, c2, c3, c4, c5, c6, c7, c8, c9, c10, c11, c12, c13, c14, c15, c16, c17, c18, c19, c20, ())) v.1 v.2.1 v.2.2.1 v.2.2.2.1 v.2.2.2.2.1 v.2.2.2.2.2.1 v.2.2.2.2.2.2.1 v.2.2.2.2.2.2.2.1 v.2.2.2.2.2.2.2.2.1 v.2.2.2.2.2.2.2.2.2.1 v.2.2.2.2.2.2.2.2.2.2.1 v.2.2.2.2.2.2.2.2.2.2.2.1 v.2.2.2.2.2.2.2.2.2.2.2.2.1 v.2.2.2.2.2.2.2.2.2.2.2.2.2.1 v.2.2.2.2.2.2.2.2.2.2.2.2.2.2.1 v.2.2.2.2.2.2.2.2.2.2.2.2.2.2.2.1 v.2.2.2.2.2.2.2.2.2.2.2.2.2.2.2.2.1 v.2.2.2.2.2.2.2.2.2.2.2.2.2.2.2.2.2.1 v.2.2.2.2.2.2.2.2.2.2.2.2.2.2.2.2.2.2.1 v.2.2.2.2.2.2.2.2.2.2.2.2.2.2.2.2.2.2.2.1 v.2.2.2.2.2.2.2.2.2.2.2.2.2.2.2.2.2.2.2.2.1 := by intro rec v; kernel_rfl
noncomputable def impl_PostChain.E : Env := ⟨D, [], [(52, impl_ybig.ent), (53, impl_QueueFault.ent), (54, impl_yin.ent), (55, slices_ContainsFunc_Buf.ent), (58, impl_yset.ent), (59, impl_ywordAt.ent)], [(6, impl_PostChain_l6.ent)]⟩
noncomputable def impl_PostChain (a0 : ByteArray) (a1 : Int) (a2 : Int) (a3 : Int) (a4 : Int) (a5 : Int) (a6 : Int) (a7 : Int) (a8 : List V1) : Option (Int × ByteArray × Int × Int × Int × Int × Int × Int × Bool × Unit) :=
 (impl_ybig [a0]).bind fun r1 =>
 let b2 : Bool := decide ((a8.length : Int) > 1000)
 bif (r1.1 || b2) then
  some (2, ByteArray.empty, 0, 0, 0, 0, 0, 0, false, ())
 else
  (impl_QueueFault a0 a1 a2 a3 a4 a5 a6).bind fun r3 =>
  let r4 : Bool × Unit := (impl_yin a7 0 (wrap64 (a1 - 1))).getD (false, ())
  let b5 : Bool := decide ((a8.length : Int) < 1)
  let b6 : Bool := (((r3.1 != 0) || !r4.1) || b5)
  let b7 : Bool := decide ((a8.length : Int) > a1)
  let r8 : Bool × Unit := (slices_ContainsFunc_Buf a8).getD (false, ())
  bif (!(!(r3.1 != 0)) || ((impl_yin a7 0 (wrap64 (a1 - 1))).isSome)) && (!(!(b6 || b7)) || ((slices_ContainsFunc_Buf a8).isSome)) then
   bif ((b6 || b7) || r8.1) then
    some (1, ByteArray.empty, 0, 0, 0, 0, 0, 0, false, ())
   else
    (impl_PostChain_l6 K0 a0 a7 a8 a8 (a8.length : Int) 0 a1 a2 a3 a4 a5 a6 0 ByteArray.empty 0 0 0 0 0 0 false).bind fun o76 =>
    let x77 : Int := (wrap64 (o76.2.2.2.2.1 + 4))
    (impl_ywordAt o76.1 x77).bind fun r78 =>
    bif !((65536 : Int) == 0) then
     let x79 : Int := (wrap64 (o76.2.2.2.2.1 + 8))
     let x80 : Int := (Int.tmod (Int.tmod r78.1 65536) o76.2.2.1)
     let x81 : Int := (wrap64 ((4 : Int) * x80))
     (impl_yset o76.1 (wrap64 (x79 + x81)) [o76.2.1]).bind fun r82 =>
     bif !(o76.2.2.1 == 0) then
      let x83 : Int := (wrap64 ((Int.tmod r78.1 65536) + 1))
      (impl_yset r82.1 x77 [(Int.tmod x83 65536)]).bind fun r84 =>
      bif !((65536 : Int) == 0) then
       some (0, r84.1, o76.2.2.1, o76.2.2.2.1, o76.2.2.2.2.1, o76.2.2.2.2.2.1, o76.2.2.2.2.2.2.1, o76.2.2.2.2.2.2.2.1, false, ())
      else none
     else none
    else none
  else none
noncomputable def impl_PostChain.ent : Entry := ⟨[false, false, false, false], [.cell (.val .bor (.str)), .agg [.val .bor (.int .i64), .val .bor (.int .i64), .val .bor (.int .i64), .val .bor (.int .i64), .val .bor (.int .i64), .val .bor (.int .i64)], .cell (.val .bor (.int .i64)), .cell (.val .bor (.slice R1))], [.agg [.val .bor (.int .i64), .val .bor (.str), .val .bor (.int .i64), .val .bor (.int .i64), .val .bor (.int .i64), .val .bor (.int .i64), .val .bor (.int .i64), .val .bor (.int .i64), .val .bor (.bool)]], [], fun v => impl_PostChain v.1 v.2.1 v.2.2.1 v.2.2.2.1 v.2.2.2.2.1 v.2.2.2.2.2.1 v.2.2.2.2.2.2.1 v.2.2.2.2.2.2.2.1 v.2.2.2.2.2.2.2.2.1⟩
theorem impl_PostChain.eq : ∀ v, evFn impl_PostChain.E f10 impl_PostChain.ent.ptrs impl_PostChain.ent.ins impl_PostChain.ent.rets impl_PostChain.ent.outs v = impl_PostChain.ent.f v := by intro v; kernel_rfl
theorem impl_PostChain.fok : ∀ q ∈ [((52 : Nat), impl_ybig.ent), ((53 : Nat), impl_QueueFault.ent), ((54 : Nat), impl_yin.ent), ((55 : Nat), slices_ContainsFunc_Buf.ent), ((58 : Nat), impl_yset.ent), ((59 : Nat), impl_ywordAt.ent)], EntryOK Pr q.1 q.2 := by
 intro q hq
 simp only [List.mem_cons, List.mem_nil_iff, or_false] at hq
 rcases hq with rfl | rfl | rfl | rfl | rfl | rfl
 · exact impl_ybig.ok
 · exact impl_QueueFault.ok
 · exact impl_yin.ok
 · exact slices_ContainsFunc_Buf.ok
 · exact impl_yset.ok
 · exact impl_ywordAt.ok
theorem impl_PostChain_l6.it : ∀ n v, iter (evStep impl_PostChain.E6 (bodyAt 6 f10) impl_PostChain_l6.ent.ins impl_PostChain_l6.ent.rts impl_PostChain_l6.ent.hm impl_PostChain_l6.ent.nl impl_PostChain_l6.ent.xs) n v = impl_PostChain_l6 n v.1 v.2.1 v.2.2.1 v.2.2.2.1 v.2.2.2.2.1 v.2.2.2.2.2.1 v.2.2.2.2.2.2.1 v.2.2.2.2.2.2.2.1 v.2.2.2.2.2.2.2.2.1 v.2.2.2.2.2.2.2.2.2.1 v.2.2.2.2.2.2.2.2.2.2.1 v.2.2.2.2.2.2.2.2.2.2.2.1 v.2.2.2.2.2.2.2.2.2.2.2.2.1 v.2.2.2.2.2.2.2.2.2.2.2.2.2.1 v.2.2.2.2.2.2.2.2.2.2.2.2.2.2.1 v.2.2.2.2.2.2.2.2.2.2.2.2.2.2.2.1 v.2.2.2.2.2.2.2.2.2.2.2.2.2.2.2.2.1 v.2.2.2.2.2.2.2.2.2.2.2.2.2.2.2.2.2.1 v.2.2.2.2.2.2.2.2.2.2.2.2.2.2.2.2.2.2.1 v.2.2.2.2.2.2.2.2.2.2.2.2.2.2.2.2.2.2.2.1 v.2.2.2.2.2.2.2.2.2.2.2.2.2.2.2.2.2.2.2.2.1 := by
 intro n
 induction n with
 | zero => intro v; rfl
 | succ n ih =>
  intro v
  show (evStep impl_PostChain.E6 (bodyAt 6 f10) impl_PostChain_l6.ent.ins impl_PostChain_l6.ent.rts impl_PostChain_l6.ent.hm impl_PostChain_l6.ent.nl impl_PostChain_l6.ent.xs) (iter (evStep impl_PostChain.E6 (bodyAt 6 f10) impl_PostChain_l6.ent.ins impl_PostChain_l6.ent.rts impl_PostChain_l6.ent.hm impl_PostChain_l6.ent.nl impl_PostChain_l6.ent.xs) n) v = _
  rw [impl_PostChain_l6.eq, show (fun c0 c1 c2 c3 c4 c5 c6 c7 c8 c9 c10 c11 c12 c13 c14 c15 c16 c17 c18 c19 c20 => iter (evStep impl_PostChain.E6 (bodyAt 6 f10) impl_PostChain_l6.ent.ins impl_PostChain_l6.ent.rts impl_PostChain_l6.ent.hm impl_PostChain_l6.ent.nl impl_PostChain_l6.ent.xs) n (c0, c1, c2, c3, c4, c5, c6, c7, c8, c9, c10, c11, c12, c13, c14, c15, c16, c17, c18, c19, c20, ())) = impl_PostChain_l6 n from by funext c0 c1 c2 c3 c4 c5 c6 c7 c8 c9 c10 c11 c12 c13 c14 c15 c16 c17 c18 c19 c20; exact ih _]
  rfl
theorem impl_PostChain_l6.fr : firstRegion (bodyAt 6 f10) = 6 := by kernel_rfl
theorem impl_PostChain_l6.ls : loopsOf (bodyAt 6 f10) = [] := by kernel_rfl
theorem impl_PostChain_l6.lok {E : Env} (hpin : impl_PostChain.E6.pin = E.pin) (hfind : find 6 E.loops = some impl_PostChain_l6.ent) : LoopOK Pr E (bodyAt 6 f10) :=
 loop_of (E1 := impl_PostChain.E6) (EnvOK.of dok impl_PostChain.fok) mixed hpin (by rw [impl_PostChain_l6.fr]; exact hfind) impl_PostChain_l6.ls (by intro l hl; simp at hl) (fun v => (impl_PostChain_l6.it K0 v).symm)
theorem impl_PostChain.ls : loopsOf (bodyOf f10) = [bodyAt 6 f10] := by kernel_rfl
theorem impl_PostChain.ok : EntryOK Pr 10 impl_PostChain.ent :=
 entry_ok (E := impl_PostChain.E) (EnvOK.of dok impl_PostChain.fok) mixed (fn := f10) (by kernel_rfl) (by kernel_rfl) (by decide) impl_PostChain.ls (by intro l hl; simp only [List.mem_singleton] at hl; subst hl; exact impl_PostChain_l6.lok rfl rfl) impl_PostChain.eq
/-! ### loop.example/g00038/laws.lwApart -/
noncomputable def laws_lwApart.E : Env := ⟨D, [], [], []⟩
noncomputable def laws_lwApart (a0 : Int) (a1 : Int) (a2 : Int) (a3 : Int) : Option (Bool × Unit) :=
 let b1 : Bool := decide ((wrap64 (a0 + a1)) ≤ a2)
 let b2 : Bool := decide ((wrap64 (a2 + a3)) ≤ a0)
 some ((b1 || b2), ())
noncomputable def laws_lwApart.ent : Entry := ⟨[false, false, false, false], [.cell (.val .bor (.int .i64)), .cell (.val .bor (.int .i64)), .cell (.val .bor (.int .i64)), .cell (.val .bor (.int .i64))], [.cell (.val .bor (.bool))], [], fun v => laws_lwApart v.1 v.2.1 v.2.2.1 v.2.2.2.1⟩
theorem laws_lwApart.eq : ∀ v, evFn laws_lwApart.E f11 laws_lwApart.ent.ptrs laws_lwApart.ent.ins laws_lwApart.ent.rets laws_lwApart.ent.outs v = laws_lwApart.ent.f v := by intro v; kernel_rfl
theorem laws_lwApart.fok : ∀ q ∈ ([] : List (Nat × Entry)), EntryOK Pr q.1 q.2 := by intro q hq; simp at hq
theorem laws_lwApart.ls : loopsOf (bodyOf f11) = [] := by kernel_rfl
theorem laws_lwApart.ok : EntryOK Pr 11 laws_lwApart.ent :=
 entry_ok (E := laws_lwApart.E) (EnvOK.of dok laws_lwApart.fok) mixed (fn := f11) (by kernel_rfl) (by kernel_rfl) (by decide) laws_lwApart.ls (by intro l hl; simp at hl) laws_lwApart.eq
/-! ### loop.example/g00038/impl.ymemQueue -/
noncomputable def impl_ymemQueue.E : Env := ⟨D, [], [(52, impl_ybig.ent), (53, impl_QueueFault.ent)], []⟩
noncomputable def impl_ymemQueue (a0 : ByteArray) (a1 : Int) (a2 : Int) (a3 : Int) (a4 : Int) (a5 : Int) (a6 : Int) : Option (Int × Unit) :=
 (impl_ybig [a0]).bind fun r1 =>
 bif r1.1 then
  some (2, ())
 else
  (impl_QueueFault a0 a1 a2 a3 a4 a5 a6).bind fun r2 =>
  some (r2.1, ())
noncomputable def impl_ymemQueue.ent : Entry := ⟨[false, false], [.cell (.val .bor (.str)), .agg [.val .bor (.int .i64), .val .bor (.int .i64), .val .bor (.int .i64), .val .bor (.int .i64), .val .bor (.int .i64), .val .bor (.int .i64)]], [.cell (.val .bor (.int .i64))], [], fun v => impl_ymemQueue v.1 v.2.1 v.2.2.1 v.2.2.2.1 v.2.2.2.2.1 v.2.2.2.2.2.1 v.2.2.2.2.2.2.1⟩
theorem impl_ymemQueue.eq : ∀ v, evFn impl_ymemQueue.E f60 impl_ymemQueue.ent.ptrs impl_ymemQueue.ent.ins impl_ymemQueue.ent.rets impl_ymemQueue.ent.outs v = impl_ymemQueue.ent.f v := by intro v; kernel_rfl
theorem impl_ymemQueue.fok : ∀ q ∈ [((52 : Nat), impl_ybig.ent), ((53 : Nat), impl_QueueFault.ent)], EntryOK Pr q.1 q.2 := by
 intro q hq
 simp only [List.mem_cons, List.mem_nil_iff, or_false] at hq
 rcases hq with rfl | rfl
 · exact impl_ybig.ok
 · exact impl_QueueFault.ok
theorem impl_ymemQueue.ls : loopsOf (bodyOf f60) = [] := by kernel_rfl
theorem impl_ymemQueue.ok : EntryOK Pr 60 impl_ymemQueue.ent :=
 entry_ok (E := impl_ymemQueue.E) (EnvOK.of dok impl_ymemQueue.fok) mixed (fn := f60) (by kernel_rfl) (by kernel_rfl) (by decide) impl_ymemQueue.ls (by intro l hl; simp at hl) impl_ymemQueue.eq
/-! ### loop.example/g00038/impl.ymod -/
noncomputable def impl_ymod.E : Env := ⟨D, [], [], []⟩
noncomputable def impl_ymod (a0 : Int) (a1 : Int) : Option (Int × Unit) :=
 bif !(a1 == 0) then
  let b1 : Bool := decide ((Int.tmod a0 a1) < 0)
  let x2 : Int := (wrap64 ((Int.tmod a0 a1) + a1))
  let x3 : Int := (bif b1 then x2 else (Int.tmod a0 a1))
  some (x3, ())
 else none
noncomputable def impl_ymod.ent : Entry := ⟨[false, false], [.cell (.val .bor (.int .i64)), .cell (.val .bor (.int .i64))], [.cell (.val .bor (.int .i64))], [], fun v => impl_ymod v.1 v.2.1⟩
theorem impl_ymod.eq : ∀ v, evFn impl_ymod.E f119 impl_ymod.ent.ptrs impl_ymod.ent.ins impl_ymod.ent.rets impl_ymod.ent.outs v = impl_ymod.ent.f v := by intro v; kernel_rfl
theorem impl_ymod.fok : ∀ q ∈ ([] : List (Nat × Entry)), EntryOK Pr q.1 q.2 := by intro q hq; simp at hq
theorem impl_ymod.ls : loopsOf (bodyOf f119) = [] := by kernel_rfl
theorem impl_ymod.ok : EntryOK Pr 119 impl_ymod.ent :=
 entry_ok (E := impl_ymod.E) (EnvOK.of dok impl_ymod.fok) mixed (fn := f119) (by kernel_rfl) (by kernel_rfl) (by decide) impl_ymod.ls (by intro l hl; simp at hl) impl_ymod.eq
/-! ### loop.example/g00038/impl.yreadDesc -/
noncomputable def impl_yreadDesc.E3 : Env := ⟨D, [], [(59, impl_ywordAt.ent)], []⟩
noncomputable def impl_yreadDesc_l3_step (rec : ByteArray → Int → Int → Int → Int → Int → Int → Int → Int → Int → Int → Option ((Int × Int × Int × Int × Int × Int × Int × Int × Unit))) (y0 : ByteArray) (y1 : Int) (y2 : Int) (y3 : Int) (y4 : Int) (y5 : Int) (y6 : Int) (y7 : Int) (y8 : Int) (y9 : Int) (y10 : Int) : Option ((Int × Int × Int × Int × Int × Int × Int × Int × Unit)) :=
 bif decide (y2 < 4) then
  let x1 : Int := (wrap64 ((4 : Int) * y2))
  (impl_ywordAt y0 (wrap64 (y1 + x1))).bind fun r2 =>
  let x3 : Int := (bif (y2 == 0) then r2.1 else y7)
  let x4 : Int := (bif (y2 == 1) then r2.1 else y8)
  let x5 : Int := (bif (y2 == 2) then r2.1 else y9)
  let x6 : Int := (bif (y2 == 3) then r2.1 else y10)
  bif decide (0 ≤ y2) && decide (y2 < 4) then
   rec y0 y1 (wrap64 (y2 + 1)) y3 y4 y5 y6 x3 x4 x5 x6
  else none
 else
  some (y3, y4, y5, y6, y7, y8, y9, y10, ())
noncomputable def impl_yreadDesc_l3 : Nat → ByteArray → Int → Int → Int → Int → Int → Int → Int → Int → Int → Int → Option ((Int × Int × Int × Int × Int × Int × Int × Int × Unit))
 | 0 => fun _ _ _ _ _ _ _ _ _ _ _ => none
 | n + 1 => impl_yreadDesc_l3_step (impl_yreadDesc_l3 n)
noncomputable def impl_yreadDesc_l3.ent : LEntry := ⟨(.cell (.val .bor (.str)) :: (.cell (.val .bor (.int .i64)) :: (sk 2 (.cell (.fix (.ptr 4 0)) :: (.cell (.fix (.ptr 5 0)) :: (sk 1 (.cell (.val .bor (.int .i64)) :: (sk 12 [])))))))), rk 4 ([.val .bor (.int .i64), .val .bor (.int .i64), .val .bor (.int .i64), .val .bor (.int .i64)] :: ([.val .bor (.int .i64), .val .bor (.int .i64), .val .bor (.int .i64), .val .bor (.int .i64)] :: (rk 14 []))), [], [], [⟨some 0, sk 4 (.cell (.fix (.ptr 4 0)) :: (.cell (.fix (.ptr 5 0)) :: (sk 14 []))), rk 4 ([.val .bor (.int .i64), .val .bor (.int .i64), .val .bor (.int .i64), .val .bor (.int .i64)] :: ([.val .bor (.int .i64), .val .bor (.int .i64), .val .bor (.int .i64), .val .bor (.int .i64)] :: (rk 14 []))), [], []⟩], fun v => impl_yreadDesc_l3 K0 v.1 v.2.1 v.2.2.1 v.2.2.2.1 v.2.2.2.2.1 v.2.2.2.2.2.1 v.2.2.2.2.2.2.1 v.2.2.2.2.2.2.2.1 v.2.2.2.2.2.2.2.2.1 v.2.2.2.2.2.2.2.2.2.1 v.2.2.2.2.2.2.2.2.2.2.1⟩
theorem impl_yreadDesc_l3.eq : ∀ rec v, evStep impl_yreadDesc.E3 (bodyAt 3 f151) impl_yreadDesc_l3.ent.ins impl_yreadDesc_l3.ent.rts impl_yreadDesc_l3.ent.hm impl_yreadDesc_l3.ent.nl impl_yreadDesc_l3.ent.xs rec v = impl_yreadDesc_l3_step (fun c0 c1 c2 c3 c4 c5 c6 c7 c8 c9 c10 => rec (c0, c1, c2, c3, c4, c5, c6, c7, c8, c9, c10, ())) v.1 v.2.1 v.2.2.1 v.2.2.2.1 v.2.2.2.2.1 v.2.2.2.2.2.1 v.2.2.2.2.2.2.1 v.2.2.2.2.2.2.2.1 v.2.2.2.2.2.2.2.2.1 v.2.2.2.2.2.2.2.2.2.1 v.2.2.2.2.2.2.2.2.2.2.1 := by intro rec v; kernel_rfl
noncomputable def impl_yreadDesc.E : Env := ⟨D, [], [(59, impl_ywordAt.ent)], [(3, impl_yreadDesc_l3.ent)]⟩
noncomputable def impl_yreadDesc (a0 : ByteArray) (a1 : Int) : Option (Int × Int × Int × Int × Unit) :=
 (impl_yreadDesc_l3 K0 a0 a1 0 0 0 0 0 0 0 0 0).bind fun o7 =>
 some (o7.2.2.2.2.1, o7.2.2.2.2.2.1, o7.2.2.2.2.2.2.1, o7.2.2.2.2.2.2.2.1, ())
noncomputable def impl_yreadDesc.ent : Entry := ⟨[false, false], [.cell (.val .bor (.str)), .cell (.val .bor (.int .i64))], [.agg [.val .bor (.int .i64), .val .bor (.int .i64), .val .bor (.int .i64), .val .bor (.int .i64)]], [], fun v => impl_yreadDesc v.1 v.2.1⟩
theorem impl_yreadDesc.eq : ∀ v, evFn impl_yreadDesc.E f151 impl_yreadDesc.ent.ptrs impl_yreadDesc.ent.ins impl_yreadDesc.ent.rets impl_yreadDesc.ent.outs v = impl_yreadDesc.ent.f v := by intro v; kernel_rfl
theorem impl_yreadDesc.fok : ∀ q ∈ [((59 : Nat), impl_ywordAt.ent)], EntryOK Pr q.1 q.2 := by
 intro q hq
 simp only [List.mem_cons, List.mem_nil_iff, or_false] at hq
 rcases hq with rfl
 · exact impl_ywordAt.ok
theorem impl_yreadDesc_l3.it : ∀ n v, iter (evStep impl_yreadDesc.E3 (bodyAt 3 f151) impl_yreadDesc_l3.ent.ins impl_yreadDesc_l3.ent.rts impl_yreadDesc_l3.ent.hm impl_yreadDesc_l3.ent.nl impl_yreadDesc_l3.ent.xs) n v = impl_yreadDesc_l3 n v.1 v.2.1 v.2.2.1 v.2.2.2.1 v.2.2.2.2.1 v.2.2.2.2.2.1 v.2.2.2.2.2.2.1 v.2.2.2.2.2.2.2.1 v.2.2.2.2.2.2.2.2.1 v.2.2.2.2.2.2.2.2.2.1 v.2.2.2.2.2.2.2.2.2.2.1 := by
 intro n
 induction n with
 | zero => intro v; rfl
 | succ n ih =>
  intro v
  show (evStep impl_yreadDesc.E3 (bodyAt 3 f151) impl_yreadDesc_l3.ent.ins impl_yreadDesc_l3.ent.rts impl_yreadDesc_l3.ent.hm impl_yreadDesc_l3.ent.nl impl_yreadDesc_l3.ent.xs) (iter (evStep impl_yreadDesc.E3 (bodyAt 3 f151) impl_yreadDesc_l3.ent.ins impl_yreadDesc_l3.ent.rts impl_yreadDesc_l3.ent.hm impl_yreadDesc_l3.ent.nl impl_yreadDesc_l3.ent.xs) n) v = _
  rw [impl_yreadDesc_l3.eq, show (fun c0 c1 c2 c3 c4 c5 c6 c7 c8 c9 c10 => iter (evStep impl_yreadDesc.E3 (bodyAt 3 f151) impl_yreadDesc_l3.ent.ins impl_yreadDesc_l3.ent.rts impl_yreadDesc_l3.ent.hm impl_yreadDesc_l3.ent.nl impl_yreadDesc_l3.ent.xs) n (c0, c1, c2, c3, c4, c5, c6, c7, c8, c9, c10, ())) = impl_yreadDesc_l3 n from by funext c0 c1 c2 c3 c4 c5 c6 c7 c8 c9 c10; exact ih _]
  rfl
theorem impl_yreadDesc_l3.fr : firstRegion (bodyAt 3 f151) = 3 := by kernel_rfl
theorem impl_yreadDesc_l3.ls : loopsOf (bodyAt 3 f151) = [] := by kernel_rfl
theorem impl_yreadDesc_l3.lok {E : Env} (hpin : impl_yreadDesc.E3.pin = E.pin) (hfind : find 3 E.loops = some impl_yreadDesc_l3.ent) : LoopOK Pr E (bodyAt 3 f151) :=
 loop_of (E1 := impl_yreadDesc.E3) (EnvOK.of dok impl_yreadDesc.fok) mixed hpin (by rw [impl_yreadDesc_l3.fr]; exact hfind) impl_yreadDesc_l3.ls (by intro l hl; simp at hl) (fun v => (impl_yreadDesc_l3.it K0 v).symm)
theorem impl_yreadDesc.ls : loopsOf (bodyOf f151) = [bodyAt 3 f151] := by kernel_rfl
theorem impl_yreadDesc.ok : EntryOK Pr 151 impl_yreadDesc.ent :=
 entry_ok (E := impl_yreadDesc.E) (EnvOK.of dok impl_yreadDesc.fok) mixed (fn := f151) (by kernel_rfl) (by kernel_rfl) (by decide) impl_yreadDesc.ls (by intro l hl; simp only [List.mem_singleton] at hl; subst hl; exact impl_yreadDesc_l3.lok rfl rfl) impl_yreadDesc.eq
/-! ### (loop.example/g00038/impl.ydesc).has -/
noncomputable def impl_ydesc_has.E : Env := ⟨D, [], [], []⟩
noncomputable def impl_ydesc_has (a0 : Int) (a1 : Int) (a2 : Int) (a3 : Int) (a4 : Int) : Option (Bool × Unit) :=
 let b1 : Bool := ((bits .and .i64 a2 a4) != 0)
 some (b1, ())
noncomputable def impl_ydesc_has.ent : Entry := ⟨[false, false], [.agg [.val .bor (.int .i64), .val .bor (.int .i64), .val .bor (.int .i64), .val .bor (.int .i64)], .cell (.val .bor (.int .i64))], [.cell (.val .bor (.bool))], [], fun v => impl_ydesc_has v.1 v.2.1 v.2.2.1 v.2.2.2.1 v.2.2.2.2.1⟩
theorem impl_ydesc_has.eq : ∀ v, evFn impl_ydesc_has.E f152 impl_ydesc_has.ent.ptrs impl_ydesc_has.ent.ins impl_ydesc_has.ent.rets impl_ydesc_has.ent.outs v = impl_ydesc_has.ent.f v := by intro v; kernel_rfl
theorem impl_ydesc_has.fok : ∀ q ∈ ([] : List (Nat × Entry)), EntryOK Pr q.1 q.2 := by intro q hq; simp at hq
theorem impl_ydesc_has.ls : loopsOf (bodyOf f152) = [] := by kernel_rfl
theorem impl_ydesc_has.ok : EntryOK Pr 152 impl_ydesc_has.ent :=
 entry_ok (E := impl_ydesc_has.E) (EnvOK.of dok impl_ydesc_has.fok) mixed (fn := f152) (by kernel_rfl) (by kernel_rfl) (by decide) impl_ydesc_has.ls (by intro l hl; simp at hl) impl_ydesc_has.eq
/-! ### (loop.example/g00038/impl.ydesc).buf -/
noncomputable def impl_ydesc_buf.E : Env := ⟨D, [], [(152, impl_ydesc_has.ent)], []⟩
noncomputable def impl_ydesc_buf (a0 : Int) (a1 : Int) (a2 : Int) (a3 : Int) : Option (Int × Int × Bool × Unit) :=
 (impl_ydesc_has a0 a1 a2 a3 2).bind fun r1 =>
 some (a0, a1, r1.1, ())
noncomputable def impl_ydesc_buf.ent : Entry := ⟨[false], [.agg [.val .bor (.int .i64), .val .bor (.int .i64), .val .bor (.int .i64), .val .bor (.int .i64)]], [.agg [.val .bor (.int .i64), .val .bor (.int .i64), .val .bor (.bool)]], [], fun v => impl_ydesc_buf v.1 v.2.1 v.2.2.1 v.2.2.2.1⟩
theorem impl_ydesc_buf.eq : ∀ v, evFn impl_ydesc_buf.E f162 impl_ydesc_buf.ent.ptrs impl_ydesc_buf.ent.ins impl_ydesc_buf.ent.rets impl_ydesc_buf.ent.outs v = impl_ydesc_buf.ent.f v := by intro v; kernel_rfl
theorem impl_ydesc_buf.fok : ∀ q ∈ [((152 : Nat), impl_ydesc_has.ent)], EntryOK Pr q.1 q.2 := by
 intro q hq
 simp only [List.mem_cons, List.mem_nil_iff, or_false] at hq
 rcases hq with rfl
 · exact impl_ydesc_has.ok
theorem impl_ydesc_buf.ls : loopsOf (bodyOf f162) = [] := by kernel_rfl
theorem impl_ydesc_buf.ok : EntryOK Pr 162 impl_ydesc_buf.ent :=
 entry_ok (E := impl_ydesc_buf.E) (EnvOK.of dok impl_ydesc_buf.fok) mixed (fn := f162) (by kernel_rfl) (by kernel_rfl) (by decide) impl_ydesc_buf.ls (by intro l hl; simp at hl) impl_ydesc_buf.eq
/-! ### loop.example/g00038/impl.yadd -/
noncomputable def impl_yadd_v4.E : Env := ⟨D, [], [(150, impl_yfits.ent), (152, impl_ydesc_has.ent), (162, impl_ydesc_buf.ent)], []⟩
noncomputable def impl_yadd_v4 (a0 : ByteArray) (a1 : List V1) (a2 : Int) (a3 : Int) (a4 : Int) (a5 : Int) : Option (List V1 × Int × Unit) :=
 (impl_yfits (a0.size : Int) a2 a3).bind fun r1 =>
 bif !r1.1 then
  some ([], 2, ())
 else
  let b2 : Bool := decide ((a1.length : Int) > 0)
  let x3 : Int := (wrap64 ((a1.length : Int) - 1))
  let e4 : V1 := rd R1 a1 x3
  let r5 : Bool × Unit := (impl_ydesc_has a2 a3 a4 a5 2).getD (false, ())
  let b6 : Bool := ((b2 && e4.2.2) && !r5.1)
  bif (!b2 || (decide (0 ≤ x3) && decide (x3 < (a1.length : Int)))) && (!(b2 && e4.2.2) || ((impl_ydesc_has a2 a3 a4 a5 2).isSome)) then
   bif b6 then
    some ([], 6, ())
   else
    (impl_ydesc_buf a2 a3 a4 a5).bind fun r7 =>
    let l8 : List V1 := [(r7.1, r7.2.1, r7.2.2.1)]
    bif roomy ((a1.length : Int) + (l8.length : Int)) 24 then
     some ((a1 ++ l8), 0, ())
    else none
  else none
noncomputable def impl_yadd_v4.ent : Entry := ⟨[false, false, false], [.cell (.val .bor (.str)), .cell (.val .own (.slice R1)), .agg [.val .bor (.int .i64), .val .bor (.int .i64), .val .bor (.int .i64), .val .bor (.int .i64)]], [.cell (.val .own (.slice R1)), .cell (.val .bor (.int .i64))], [], fun v => impl_yadd_v4 v.1 v.2.1 v.2.2.1 v.2.2.2.1 v.2.2.2.2.1 v.2.2.2.2.2.1⟩
theorem impl_yadd_v4.eq : ∀ v, evFn impl_yadd_v4.E f153 impl_yadd_v4.ent.ptrs impl_yadd_v4.ent.ins impl_yadd_v4.ent.rets impl_yadd_v4.ent.outs v = impl_yadd_v4.ent.f v := by intro v; kernel_rfl
theorem impl_yadd_v4.fok : ∀ q ∈ [((150 : Nat), impl_yfits.ent), ((152 : Nat), impl_ydesc_has.ent), ((162 : Nat), impl_ydesc_buf.ent)], EntryOK Pr q.1 q.2 := by
 intro q hq
 simp only [List.mem_cons, List.mem_nil_iff, or_false] at hq
 rcases hq with rfl | rfl | rfl
 · exact impl_yfits.ok
 · exact impl_ydesc_has.ok
 · exact impl_ydesc_buf.ok
theorem impl_yadd_v4.ls : loopsOf (bodyOf f153) = [] := by kernel_rfl
theorem impl_yadd_v4.ok : EntryOK Pr 153 impl_yadd_v4.ent :=
 entry_ok (E := impl_yadd_v4.E) (EnvOK.of dok impl_yadd_v4.fok) mixed (fn := f153) (by kernel_rfl) (by kernel_rfl) (by decide) impl_yadd_v4.ls (by intro l hl; simp at hl) impl_yadd_v4.eq
/-! ### loop.example/g00038/impl.yreadChain -/
noncomputable def impl_yreadChain.E6 : Env := ⟨D, [], [(54, impl_yin.ent), (151, impl_yreadDesc.ent), (152, impl_ydesc_has.ent), (150, impl_yfits.ent), (153, impl_yadd_v4.ent)], []⟩
noncomputable def impl_yreadChain_l6_step (rec : ByteArray → Int → Int → Int → Int → Bool → Int → List V1 → Option ((Int × List V1 × Unit))) (y0 : ByteArray) (y1 : Int) (y2 : Int) (y3 : Int) (y4 : Int) (y5 : Bool) (y6 : Int) (y7 : List V1) : Option ((Int × List V1 × Unit)) :=
 bif decide (y3 ≥ y2) then
  some (5, [], ())
 else
  let b15 : Bool := decide ((wrap64 (y4 + 1)) > y2)
  bif b15 then
   some (9, [], ())
  else
   let x16 : Int := (wrap64 ((16 : Int) * y3))
   (impl_yreadDesc y0 (wrap64 (y1 + x16))).bind fun r17 =>
   (impl_ydesc_has r17.1 r17.2.1 r17.2.2.1 r17.2.2.2.1 4).bind fun r18 =>
   bif r18.1 then
    let r19 : Bool × Unit := (impl_ydesc_has r17.1 r17.2.1 r17.2.2.1 r17.2.2.2.1 1).getD (false, ())
    let b20 : Bool := ((Int.tmod r17.2.1 16) != 0)
    let r21 : Bool × Unit := (impl_yin r17.2.1 16 256).getD (false, ())
    let b22 : Bool := (((y5 || r19.1) || b20) || !r21.1)
    let b23 : Bool := ((Int.tmod r17.1 4) != 0)
    bif (!(!y5) || ((impl_ydesc_has r17.1 r17.2.1 r17.2.2.1 r17.2.2.2.1 1).isSome)) && ((!(!(y5 || r19.1)) || (!((16 : Int) == 0))) && ((!(!((y5 || r19.1) || b20)) || ((impl_yin r17.2.1 16 256).isSome)) && (!(!b22) || (!((4 : Int) == 0))))) then
     bif (b22 || b23) then
      some (3, [], ())
     else
      (impl_yfits (y0.size : Int) r17.1 r17.2.1).bind fun r24 =>
      bif !r24.1 then
       some (2, [], ())
      else
       let x25 : Int := (wrap64 (Int.tdiv r17.2.1 16))
       bif !((16 : Int) == 0) then
        rec y0 r17.1 x25 0 0 true y6 y7
       else none
    else none
   else
    (impl_yadd_v4 y0 y7 r17.1 r17.2.1 r17.2.2.1 r17.2.2.2.1).bind fun r26 =>
    bif (r26.2.1 != 0) then
     some (r26.2.1, [], ())
    else
     (impl_ydesc_has r17.1 r17.2.1 r17.2.2.1 r17.2.2.2.1 1).bind fun r27 =>
     bif !r27.1 then
      some (0, r26.1, ())
     else
      rec y0 y1 y2 r17.2.2.2.1 (wrap64 (y4 + 1)) y5 y6 r26.1
noncomputable def impl_yreadChain_l6 : Nat → ByteArray → Int → Int → Int → Int → Bool → Int → List V1 → Option ((Int × List V1 × Unit))
 | 0 => fun _ _ _ _ _ _ _ _ => none
 | n + 1 => impl_yreadChain_l6_step (impl_yreadChain_l6 n)
noncomputable def impl_yreadChain_l6.ent : LEntry := ⟨(.cell (.val .bor (.str)) :: (sk 5 (.cell (.fix (.ptr 6 0)) :: (.cell (.fix (.view 7 0)) :: (.cell (.val .bor (.int .i64)) :: (.cell (.val .bor (.int .i64)) :: (.cell (.val .bor (.int .i64)) :: (.cell (.val .bor (.int .i64)) :: (.cell (.val .bor (.bool)) :: (sk 88 [])))))))))), rk 6 ([.val .bor (.int .i64), .fix (.nil)] :: ([.val .own (.slice R1)] :: (rk 93 []))), [(7, true, .pair (.int .i64) (.pair (.int .i64) (.bool)))], [], [⟨none, sk 6 (.cell (.fix (.ptr 6 0)) :: (sk 94 [])), rk 6 ([.val .bor (.int .i64), .val .own (.slice R1)] :: (rk 94 [])), [], [(6, 1, true, .pair (.int .i64) (.pair (.int .i64) (.bool)))]⟩], fun v => impl_yreadChain_l6 K0 v.1 v.2.1 v.2.2.1 v.2.2.2.1 v.2.2.2.2.1 v.2.2.2.2.2.1 v.2.2.2.2.2.2.1 v.2.2.2.2.2.2.2.1⟩
theorem impl_yreadChain_l6.eq : ∀ rec v, evStep impl_yreadChain.E6 (bodyAt 6 f120) impl_yreadChain_l6.ent.ins impl_yreadChain_l6.ent.rts impl_yreadChain_l6.ent.hm impl_yreadChain_l6.ent.nl impl_yreadChain_l6.ent.xs rec v = impl_yreadChain_l6_step (fun c0 c1 c2 c3 c4 c5 c6 c7 => rec (c0, c1, c2, c3, c4, c5, c6, c7, ())) v.1 v.2.1 v.2.2.1 v.2.2.2.1 v.2.2.2.2.1 v.2.2.2.2.2.1 v.2.2.2.2.2.2.1 v.2.2.2.2.2.2.2.1 := by intro rec v; kernel_rfl
noncomputable def impl_yreadChain.E : Env := ⟨D, [], [(54, impl_yin.ent), (151, impl_yreadDesc.ent), (152, impl_ydesc_has.ent), (150, impl_yfits.ent), (153, impl_yadd_v4.ent)], [(6, impl_yreadChain_l6.ent)]⟩
noncomputable def impl_yreadChain (a0 : ByteArray) (a1 : Int) (a2 : Int) (a3 : Int) (a4 : Int) (a5 : Int) (a6 : Int) (a7 : Int) : Option (Int × List V1 × Unit) :=
 (impl_yin a7 0 (wrap64 (a1 - 1))).bind fun r1 =>
 bif !r1.1 then
  some (1, [], ())
 else
  (impl_yreadChain_l6 K0 a0 a2 a1 a7 0 false 0 []).bind fun o28 =>
  some (o28.1, o28.2.1, ())
noncomputable def impl_yreadChain.ent : Entry := ⟨[false, false, false], [.cell (.val .bor (.str)), .agg [.val .bor (.int .i64), .val .bor (.int .i64), .val .bor (.int .i64), .val .bor (.int .i64), .val .bor (.int .i64), .val .bor (.int .i64)], .cell (.val .bor (.int .i64))], [.agg [.val .bor (.int .i64), .val .own (.slice R1)]], [], fun v => impl_yreadChain v.1 v.2.1 v.2.2.1 v.2.2.2.1 v.2.2.2.2.1 v.2.2.2.2.2.1 v.2.2.2.2.2.2.1 v.2.2.2.2.2.2.2.1⟩
theorem impl_yreadChain.eq : ∀ v, evFn impl_yreadChain.E f120 impl_yreadChain.ent.ptrs impl_yreadChain.ent.ins impl_yreadChain.ent.rets impl_yreadChain.ent.outs v = impl_yreadChain.ent.f v := by intro v; kernel_rfl
theorem impl_yreadChain.fok : ∀ q ∈ [((54 : Nat), impl_yin.ent), ((151 : Nat), impl_yreadDesc.ent), ((152 : Nat), impl_ydesc_has.ent), ((150 : Nat), impl_yfits.ent), ((153 : Nat), impl_yadd_v4.ent)], EntryOK Pr q.1 q.2 := by
 intro q hq
 simp only [List.mem_cons, List.mem_nil_iff, or_false] at hq
 rcases hq with rfl | rfl | rfl | rfl | rfl
 · exact impl_yin.ok
 · exact impl_yreadDesc.ok
 · exact impl_ydesc_has.ok
 · exact impl_yfits.ok
 · exact impl_yadd_v4.ok
theorem impl_yreadChain_l6.it : ∀ n v, iter (evStep impl_yreadChain.E6 (bodyAt 6 f120) impl_yreadChain_l6.ent.ins impl_yreadChain_l6.ent.rts impl_yreadChain_l6.ent.hm impl_yreadChain_l6.ent.nl impl_yreadChain_l6.ent.xs) n v = impl_yreadChain_l6 n v.1 v.2.1 v.2.2.1 v.2.2.2.1 v.2.2.2.2.1 v.2.2.2.2.2.1 v.2.2.2.2.2.2.1 v.2.2.2.2.2.2.2.1 := by
 intro n
 induction n with
 | zero => intro v; rfl
 | succ n ih =>
  intro v
  show (evStep impl_yreadChain.E6 (bodyAt 6 f120) impl_yreadChain_l6.ent.ins impl_yreadChain_l6.ent.rts impl_yreadChain_l6.ent.hm impl_yreadChain_l6.ent.nl impl_yreadChain_l6.ent.xs) (iter (evStep impl_yreadChain.E6 (bodyAt 6 f120) impl_yreadChain_l6.ent.ins impl_yreadChain_l6.ent.rts impl_yreadChain_l6.ent.hm impl_yreadChain_l6.ent.nl impl_yreadChain_l6.ent.xs) n) v = _
  rw [impl_yreadChain_l6.eq, show (fun c0 c1 c2 c3 c4 c5 c6 c7 => iter (evStep impl_yreadChain.E6 (bodyAt 6 f120) impl_yreadChain_l6.ent.ins impl_yreadChain_l6.ent.rts impl_yreadChain_l6.ent.hm impl_yreadChain_l6.ent.nl impl_yreadChain_l6.ent.xs) n (c0, c1, c2, c3, c4, c5, c6, c7, ())) = impl_yreadChain_l6 n from by funext c0 c1 c2 c3 c4 c5 c6 c7; exact ih _]
  rfl
theorem impl_yreadChain_l6.fr : firstRegion (bodyAt 6 f120) = 6 := by kernel_rfl
theorem impl_yreadChain_l6.ls : loopsOf (bodyAt 6 f120) = [] := by kernel_rfl
theorem impl_yreadChain_l6.lok {E : Env} (hpin : impl_yreadChain.E6.pin = E.pin) (hfind : find 6 E.loops = some impl_yreadChain_l6.ent) : LoopOK Pr E (bodyAt 6 f120) :=
 loop_of (E1 := impl_yreadChain.E6) (EnvOK.of dok impl_yreadChain.fok) mixed hpin (by rw [impl_yreadChain_l6.fr]; exact hfind) impl_yreadChain_l6.ls (by intro l hl; simp at hl) (fun v => (impl_yreadChain_l6.it K0 v).symm)
theorem impl_yreadChain.ls : loopsOf (bodyOf f120) = [bodyAt 6 f120] := by kernel_rfl
theorem impl_yreadChain.ok : EntryOK Pr 120 impl_yreadChain.ent :=
 entry_ok (E := impl_yreadChain.E) (EnvOK.of dok impl_yreadChain.fok) mixed (fn := f120) (by kernel_rfl) (by kernel_rfl) (by decide) impl_yreadChain.ls (by intro l hl; simp only [List.mem_singleton] at hl; subst hl; exact impl_yreadChain_l6.lok rfl rfl) impl_yreadChain.eq
/-! ### loop.example/g00038/impl.ytakeChain -/
noncomputable def impl_ytakeChain.E : Env := ⟨D, [], [(59, impl_ywordAt.ent), (119, impl_ymod.ent), (120, impl_yreadChain.ent)], []⟩
noncomputable def impl_ytakeChain (a0 : ByteArray) (a1 : Int) (a2 : Int) (a3 : Int) (a4 : Int) (a5 : Int) (a6 : Int) : Option (Int × Int × List V1 × Int × Int × Int × Int × Int × Int × Unit) :=
 (impl_ywordAt a0 (wrap64 (a3 + 4))).bind fun r1 =>
 bif !((65536 : Int) == 0) then
  let x2 : Int := (wrap64 ((Int.tmod r1.1 65536) - a5))
  (impl_ymod x2 65536).bind fun r3 =>
  bif (r3.1 == 0) then
   some (5, 0, [], 0, 0, 0, 0, 0, 0, ())
  else
  bif decide (r3.1 > a1) then
   some (8, 0, [], 0, 0, 0, 0, 0, 0, ())
  else
   let x4 : Int := (wrap64 ((4 : Int) * (Int.tmod a5 a1)))
   let x5 : Int := (wrap64 ((wrap64 (a3 + 8)) + x4))
   (impl_ywordAt a0 x5).bind fun r6 =>
   bif !(a1 == 0) then
    (impl_yreadChain a0 a1 a2 a3 a4 a5 a6 r6.1).bind fun r7 =>
    let x8 : Int := (Int.tmod (wrap64 (a5 + 1)) 65536)
    bif !((65536 : Int) == 0) then
     some (r7.1, r6.1, r7.2.1, a1, a2, a3, a4, x8, a6, ())
    else none
   else none
 else none
noncomputable def impl_ytakeChain.ent : Entry := ⟨[false, false], [.cell (.val .bor (.str)), .agg [.val .bor (.int .i64), .val .bor (.int .i64), .val .bor (.int .i64), .val .bor (.int .i64), .val .bor (.int .i64), .val .bor (.int .i64)]], [.agg [.val .bor (.int .i64), .val .bor (.int .i64), .val .own (.slice R1), .val .bor (.int .i64), .val .bor (.int .i64), .val .bor (.int .i64), .val .bor (.int .i64), .val .bor (.int .i64), .val .bor (.int .i64)]], [], fun v => impl_ytakeChain v.1 v.2.1 v.2.2.1 v.2.2.2.1 v.2.2.2.2.1 v.2.2.2.2.2.1 v.2.2.2.2.2.2.1⟩
theorem impl_ytakeChain.eq : ∀ v, evFn impl_ytakeChain.E f61 impl_ytakeChain.ent.ptrs impl_ytakeChain.ent.ins impl_ytakeChain.ent.rets impl_ytakeChain.ent.outs v = impl_ytakeChain.ent.f v := by intro v; kernel_rfl
theorem impl_ytakeChain.fok : ∀ q ∈ [((59 : Nat), impl_ywordAt.ent), ((119 : Nat), impl_ymod.ent), ((120 : Nat), impl_yreadChain.ent)], EntryOK Pr q.1 q.2 := by
 intro q hq
 simp only [List.mem_cons, List.mem_nil_iff, or_false] at hq
 rcases hq with rfl | rfl | rfl
 · exact impl_ywordAt.ok
 · exact impl_ymod.ok
 · exact impl_yreadChain.ok
theorem impl_ytakeChain.ls : loopsOf (bodyOf f61) = [] := by kernel_rfl
theorem impl_ytakeChain.ok : EntryOK Pr 61 impl_ytakeChain.ent :=
 entry_ok (E := impl_ytakeChain.E) (EnvOK.of dok impl_ytakeChain.fok) mixed (fn := f61) (by kernel_rfl) (by kernel_rfl) (by decide) impl_ytakeChain.ls (by intro l hl; simp at hl) impl_ytakeChain.eq
/-! ### loop.example/g00038/impl.TakeChain -/
noncomputable def impl_TakeChain.E : Env := ⟨D, [], [(60, impl_ymemQueue.ent), (61, impl_ytakeChain.ent)], []⟩
noncomputable def impl_TakeChain (a0 : ByteArray) (a1 : Int) (a2 : Int) (a3 : Int) (a4 : Int) (a5 : Int) (a6 : Int) : Option (Int × Int × List V1 × Int × Int × Int × Int × Int × Int × Unit) :=
 (impl_ymemQueue a0 a1 a2 a3 a4 a5 a6).bind fun r1 =>
 bif (r1.1 != 0) then
  some (r1.1, 0, [], 0, 0, 0, 0, 0, 0, ())
 else
  (impl_ytakeChain a0 a1 a2 a3 a4 a5 a6).bind fun r2 =>
  some (r2.1, r2.2.1, r2.2.2.1, r2.2.2.2.1, r2.2.2.2.2.1, r2.2.2.2.2.2.1, r2.2.2.2.2.2.2.1, r2.2.2.2.2.2.2.2.1, r2.2.2.2.2.2.2.2.2.1, ())
noncomputable def impl_TakeChain.ent : Entry := ⟨[false, false], [.cell (.val .bor (.str)), .agg [.val .bor (.int .i64), .val .bor (.int .i64), .val .bor (.int .i64), .val .bor (.int .i64), .val .bor (.int .i64), .val .bor (.int .i64)]], [.agg [.val .bor (.int .i64), .val .bor (.int .i64), .val .own (.slice R1), .val .bor (.int .i64), .val .bor (.int .i64), .val .bor (.int .i64), .val .bor (.int .i64), .val .bor (.int .i64), .val .bor (.int .i64)]], [], fun v => impl_TakeChain v.1 v.2.1 v.2.2.1 v.2.2.2.1 v.2.2.2.2.1 v.2.2.2.2.2.1 v.2.2.2.2.2.2.1⟩
theorem impl_TakeChain.eq : ∀ v, evFn impl_TakeChain.E f13 impl_TakeChain.ent.ptrs impl_TakeChain.ent.ins impl_TakeChain.ent.rets impl_TakeChain.ent.outs v = impl_TakeChain.ent.f v := by intro v; kernel_rfl
theorem impl_TakeChain.fok : ∀ q ∈ [((60 : Nat), impl_ymemQueue.ent), ((61 : Nat), impl_ytakeChain.ent)], EntryOK Pr q.1 q.2 := by
 intro q hq
 simp only [List.mem_cons, List.mem_nil_iff, or_false] at hq
 rcases hq with rfl | rfl
 · exact impl_ymemQueue.ok
 · exact impl_ytakeChain.ok
theorem impl_TakeChain.ls : loopsOf (bodyOf f13) = [] := by kernel_rfl
theorem impl_TakeChain.ok : EntryOK Pr 13 impl_TakeChain.ent :=
 entry_ok (E := impl_TakeChain.E) (EnvOK.of dok impl_TakeChain.fok) mixed (fn := f13) (by kernel_rfl) (by kernel_rfl) (by decide) impl_TakeChain.ls (by intro l hl; simp at hl) impl_TakeChain.eq
/-! ### loop.example/g00038/spec.l10Buf -/
noncomputable def spec_l10Buf.E : Env := ⟨D, [], [(113, spec_l10In.ent)], []⟩
noncomputable def spec_l10Buf (a0 : ByteArray) (a1 : List V1) (a2 : Int) (a3 : Int) (a4 : Bool) : Option (Int × Unit) :=
 (spec_l10In a0 a2 a3).bind fun r1 =>
 bif !r1.1 then
  some (2, ())
 else
  let b2 : Bool := decide ((a1.length : Int) > 0)
  let x3 : Int := (wrap64 ((a1.length : Int) - 1))
  let e4 : V1 := rd R1 a1 x3
  bif (!b2 || (decide (0 ≤ x3) && decide (x3 < (a1.length : Int)))) then
   bif ((b2 && e4.2.2) && !a4) then
    some (6, ())
   else
    some (0, ())
  else none
noncomputable def spec_l10Buf.ent : Entry := ⟨[false, false, false], [.cell (.val .bor (.str)), .cell (.val .bor (.slice R1)), .agg [.val .bor (.int .i64), .val .bor (.int .i64), .val .bor (.bool)]], [.cell (.val .bor (.int .i64))], [], fun v => spec_l10Buf v.1 v.2.1 v.2.2.1 v.2.2.2.1 v.2.2.2.2.1⟩
theorem spec_l10Buf.eq : ∀ v, evFn spec_l10Buf.E f121 spec_l10Buf.ent.ptrs spec_l10Buf.ent.ins spec_l10Buf.ent.rets spec_l10Buf.ent.outs v = spec_l10Buf.ent.f v := by intro v; kernel_rfl
theorem spec_l10Buf.fok : ∀ q ∈ [((113 : Nat), spec_l10In.ent)], EntryOK Pr q.1 q.2 := by
 intro q hq
 simp only [List.mem_cons, List.mem_nil_iff, or_false] at hq
 rcases hq with rfl
 · exact spec_l10In.ok
theorem spec_l10Buf.ls : loopsOf (bodyOf f121) = [] := by kernel_rfl
theorem spec_l10Buf.ok : EntryOK Pr 121 spec_l10Buf.ent :=
 entry_ok (E := spec_l10Buf.E) (EnvOK.of dok spec_l10Buf.fok) mixed (fn := f121) (by kernel_rfl) (by kernel_rfl) (by decide) spec_l10Buf.ls (by intro l hl; simp at hl) spec_l10Buf.eq
/-! ### loop.example/g00038/spec.ReadChain -/
noncomputable def spec_ReadChain.E11 : Env := ⟨D, [], [(48, spec_QueueFault.ent), (51, spec_l01Word.ent), (113, spec_l10In.ent), (121, spec_l10Buf.ent)], []⟩
noncomputable def spec_ReadChain_l11_step (rec : ByteArray → Int → Int → Bool → Int → Int → Int → Int → List V1 → Option ((Int × List V1 × Unit))) (y0 : ByteArray) (y1 : Int) (y2 : Int) (y3 : Bool) (y4 : Int) (y5 : Int) (y6 : Int) (y7 : Int) (y8 : List V1) : Option ((Int × List V1 × Unit)) :=
 let b25 : Bool := (decide (y4 < 0) || decide (y4 ≥ y2))
 bif b25 then
  some (5, [], ())
 else
  let b26 : Bool := decide ((wrap64 (y5 + 1)) > y2)
  bif b26 then
   some (9, [], ())
  else
   let x27 : Int := (wrap64 ((16 : Int) * y4))
   (spec_l01Word y0 (wrap64 (y1 + x27))).bind fun r28 =>
   let x29 : Int := (wrap64 ((wrap64 (y1 + x27)) + 4))
   (spec_l01Word y0 x29).bind fun r30 =>
   let x31 : Int := (wrap64 ((wrap64 (y1 + x27)) + 8))
   (spec_l01Word y0 x31).bind fun r32 =>
   let x33 : Int := (wrap64 ((wrap64 (y1 + x27)) + 12))
   (spec_l01Word y0 x33).bind fun r34 =>
   let b35 : Bool := ((bits .and .i64 r32.1 2) != 0)
   let b36 : Bool := ((bits .and .i64 r32.1 4) != 0)
   bif b36 then
    let b37 : Bool := ((bits .and .i64 r32.1 1) != 0)
    let b38 : Bool := ((Int.tmod r30.1 16) != 0)
    let b39 : Bool := (((y3 || b37) || b38) || decide (r30.1 < 16))
    let b40 : Bool := (b39 || decide (r30.1 > 256))
    let b41 : Bool := ((Int.tmod r28.1 4) != 0)
    bif (!(!(y3 || b37)) || (!((16 : Int) == 0))) && (!(!b40) || (!((4 : Int) == 0))) then
     bif (b40 || b41) then
      some (3, [], ())
     else
      (spec_l10In y0 r28.1 r30.1).bind fun r42 =>
      bif !r42.1 then
       some (2, [], ())
      else
       let x43 : Int := (wrap64 (Int.tdiv r30.1 16))
       bif !((16 : Int) == 0) then
        rec y0 r28.1 x43 true 0 0 y6 y7 y8
       else none
    else none
   else
    (spec_l10Buf y0 y8 r28.1 r30.1 b35).bind fun r44 =>
    bif (r44.1 != 0) then
     some (r44.1, [], ())
    else
     let l45 : List V1 := (y8 ++ [(r28.1, r30.1, b35)])
     bif roomy ((y8.length : Int) + ([(r28.1, r30.1, b35)].length : Int)) 24 then
      let b46 : Bool := ((bits .and .i64 r32.1 1) == 0)
      bif b46 then
       some (y7, l45, ())
      else
       rec y0 y1 y2 y3 r34.1 (wrap64 (y5 + 1)) y6 y7 l45
     else none
noncomputable def spec_ReadChain_l11 : Nat → ByteArray → Int → Int → Bool → Int → Int → Int → Int → List V1 → Option ((Int × List V1 × Unit))
 | 0 => fun _ _ _ _ _ _ _ _ _ => none
 | n + 1 => spec_ReadChain_l11_step (spec_ReadChain_l11 n)
noncomputable def spec_ReadChain_l11.ent : LEntry := ⟨(.cell (.val .bor (.str)) :: (sk 5 (.cell (.fix (.ptr 6 0)) :: (.cell (.fix (.ptr 7 0)) :: (.cell (.val .bor (.int .i64)) :: (.cell (.val .bor (.int .i64)) :: (.cell (.val .bor (.bool)) :: (.cell (.val .bor (.int .i64)) :: (.cell (.val .bor (.int .i64)) :: (sk 133 [])))))))))), rk 6 ([.val .bor (.int .i64), .fix (.nil)] :: ([.val .bor (.int .i64), .val .own (.slice R1)] :: (rk 138 []))), [], [(7, 1, true, .pair (.int .i64) (.pair (.int .i64) (.bool)))], [⟨none, sk 6 (.cell (.fix (.ptr 6 0)) :: (sk 139 [])), rk 6 ([.val .bor (.int .i64), .val .own (.slice R1)] :: (rk 139 [])), [], [(6, 1, true, .pair (.int .i64) (.pair (.int .i64) (.bool)))]⟩], fun v => spec_ReadChain_l11 K0 v.1 v.2.1 v.2.2.1 v.2.2.2.1 v.2.2.2.2.1 v.2.2.2.2.2.1 v.2.2.2.2.2.2.1 v.2.2.2.2.2.2.2.1 v.2.2.2.2.2.2.2.2.1⟩
theorem spec_ReadChain_l11.eq : ∀ rec v, evStep spec_ReadChain.E11 (bodyAt 11 f63) spec_ReadChain_l11.ent.ins spec_ReadChain_l11.ent.rts spec_ReadChain_l11.ent.hm spec_ReadChain_l11.ent.nl spec_ReadChain_l11.ent.xs rec v = spec_ReadChain_l11_step (fun c0 c1 c2 c3 c4 c5 c6 c7 c8 => rec (c0, c1, c2, c3, c4, c5, c6, c7, c8, ())) v.1 v.2.1 v.2.2.1 v.2.2.2.1 v.2.2.2.2.1 v.2.2.2.2.2.1 v.2.2.2.2.2.2.1 v.2.2.2.2.2.2.2.1 v.2.2.2.2.2.2.2.2.1 := by intro rec v; kernel_rfl
noncomputable def spec_ReadChain.E : Env := ⟨D, [], [(48, spec_QueueFault.ent), (51, spec_l01Word.ent), (113, spec_l10In.ent), (121, spec_l10Buf.ent)], [(11, spec_ReadChain_l11.ent)]⟩
noncomputable def spec_ReadChain (a0 : ByteArray) (a1 : Int) (a2 : Int) (a3 : Int) (a4 : Int) (a5 : Int) (a6 : Int) (a7 : Int) : Option (Int × List V1 × Unit) :=
 let b1 : Bool := decide ((a0.size : Int) > 65536)
 bif b1 then
  some (2, [], ())
 else
  (spec_QueueFault a0 a1 a2 a3 a4 a5 a6).bind fun r2 =>
  let b3 : Bool := ((r2.1 != 0) || decide (a7 < 0))
  bif (b3 || decide (a7 ≥ a1)) then
   some (1, [], ())
  else
   (spec_ReadChain_l11 K0 a0 a2 a1 false a7 0 0 0 []).bind fun o47 =>
   some (o47.1, o47.2.1, ())
noncomputable def spec_ReadChain.ent : Entry := ⟨[false, false, false], [.cell (.val .bor (.str)), .agg [.val .bor (.int .i64), .val .bor (.int .i64), .val .bor (.int .i64), .val .bor (.int .i64), .val .bor (.int .i64), .val .bor (.int .i64)], .cell (.val .bor (.int .i64))], [.agg [.val .bor (.int .i64), .val .own (.slice R1)]], [], fun v => spec_ReadChain v.1 v.2.1 v.2.2.1 v.2.2.2.1 v.2.2.2.2.1 v.2.2.2.2.2.1 v.2.2.2.2.2.2.1 v.2.2.2.2.2.2.2.1⟩
theorem spec_ReadChain.eq : ∀ v, evFn spec_ReadChain.E f63 spec_ReadChain.ent.ptrs spec_ReadChain.ent.ins spec_ReadChain.ent.rets spec_ReadChain.ent.outs v = spec_ReadChain.ent.f v := by intro v; kernel_rfl
theorem spec_ReadChain.fok : ∀ q ∈ [((48 : Nat), spec_QueueFault.ent), ((51 : Nat), spec_l01Word.ent), ((113 : Nat), spec_l10In.ent), ((121 : Nat), spec_l10Buf.ent)], EntryOK Pr q.1 q.2 := by
 intro q hq
 simp only [List.mem_cons, List.mem_nil_iff, or_false] at hq
 rcases hq with rfl | rfl | rfl | rfl
 · exact spec_QueueFault.ok
 · exact spec_l01Word.ok
 · exact spec_l10In.ok
 · exact spec_l10Buf.ok
theorem spec_ReadChain_l11.it : ∀ n v, iter (evStep spec_ReadChain.E11 (bodyAt 11 f63) spec_ReadChain_l11.ent.ins spec_ReadChain_l11.ent.rts spec_ReadChain_l11.ent.hm spec_ReadChain_l11.ent.nl spec_ReadChain_l11.ent.xs) n v = spec_ReadChain_l11 n v.1 v.2.1 v.2.2.1 v.2.2.2.1 v.2.2.2.2.1 v.2.2.2.2.2.1 v.2.2.2.2.2.2.1 v.2.2.2.2.2.2.2.1 v.2.2.2.2.2.2.2.2.1 := by
 intro n
 induction n with
 | zero => intro v; rfl
 | succ n ih =>
  intro v
  show (evStep spec_ReadChain.E11 (bodyAt 11 f63) spec_ReadChain_l11.ent.ins spec_ReadChain_l11.ent.rts spec_ReadChain_l11.ent.hm spec_ReadChain_l11.ent.nl spec_ReadChain_l11.ent.xs) (iter (evStep spec_ReadChain.E11 (bodyAt 11 f63) spec_ReadChain_l11.ent.ins spec_ReadChain_l11.ent.rts spec_ReadChain_l11.ent.hm spec_ReadChain_l11.ent.nl spec_ReadChain_l11.ent.xs) n) v = _
  rw [spec_ReadChain_l11.eq, show (fun c0 c1 c2 c3 c4 c5 c6 c7 c8 => iter (evStep spec_ReadChain.E11 (bodyAt 11 f63) spec_ReadChain_l11.ent.ins spec_ReadChain_l11.ent.rts spec_ReadChain_l11.ent.hm spec_ReadChain_l11.ent.nl spec_ReadChain_l11.ent.xs) n (c0, c1, c2, c3, c4, c5, c6, c7, c8, ())) = spec_ReadChain_l11 n from by funext c0 c1 c2 c3 c4 c5 c6 c7 c8; exact ih _]
  rfl
theorem spec_ReadChain_l11.fr : firstRegion (bodyAt 11 f63) = 11 := by kernel_rfl
theorem spec_ReadChain_l11.ls : loopsOf (bodyAt 11 f63) = [] := by kernel_rfl
theorem spec_ReadChain_l11.lok {E : Env} (hpin : spec_ReadChain.E11.pin = E.pin) (hfind : find 11 E.loops = some spec_ReadChain_l11.ent) : LoopOK Pr E (bodyAt 11 f63) :=
 loop_of (E1 := spec_ReadChain.E11) (EnvOK.of dok spec_ReadChain.fok) mixed hpin (by rw [spec_ReadChain_l11.fr]; exact hfind) spec_ReadChain_l11.ls (by intro l hl; simp at hl) (fun v => (spec_ReadChain_l11.it K0 v).symm)
theorem spec_ReadChain.ls : loopsOf (bodyOf f63) = [bodyAt 11 f63] := by kernel_rfl
theorem spec_ReadChain.ok : EntryOK Pr 63 spec_ReadChain.ent :=
 entry_ok (E := spec_ReadChain.E) (EnvOK.of dok spec_ReadChain.fok) mixed (fn := f63) (by kernel_rfl) (by kernel_rfl) (by decide) spec_ReadChain.ls (by intro l hl; simp only [List.mem_singleton] at hl; subst hl; exact spec_ReadChain_l11.lok rfl rfl) spec_ReadChain.eq
/-! ### loop.example/g00038/spec.TakeChain -/
noncomputable def spec_TakeChain.E : Env := ⟨D, [], [(48, spec_QueueFault.ent), (51, spec_l01Word.ent), (62, spec_l01Mod.ent), (63, spec_ReadChain.ent)], []⟩
noncomputable def spec_TakeChain (a0 : ByteArray) (a1 : Int) (a2 : Int) (a3 : Int) (a4 : Int) (a5 : Int) (a6 : Int) : Option (Int × Int × List V1 × Int × Int × Int × Int × Int × Int × Unit) :=
 let b1 : Bool := decide ((a0.size : Int) > 65536)
 bif b1 then
  some (2, 0, [], 0, 0, 0, 0, 0, 0, ())
 else
  (spec_QueueFault a0 a1 a2 a3 a4 a5 a6).bind fun r2 =>
  bif (r2.1 != 0) then
   some (1, 0, [], 0, 0, 0, 0, 0, 0, ())
  else
   (spec_l01Word a0 (wrap64 (a3 + 4))).bind fun r3 =>
   (spec_l01Mod (wrap64 (r3.1 - a5)) 65536).bind fun r4 =>
   bif (r4.1 == 0) then
    some (5, 0, [], 0, 0, 0, 0, 0, 0, ())
   else
   bif decide (r4.1 > a1) then
    some (8, 0, [], 0, 0, 0, 0, 0, 0, ())
   else
    let x5 : Int := (wrap64 ((4 : Int) * (Int.tmod a5 a1)))
    let x6 : Int := (wrap64 ((wrap64 (a3 + 8)) + x5))
    (spec_l01Word a0 x6).bind fun r7 =>
    bif !(a1 == 0) then
     (spec_ReadChain a0 a1 a2 a3 a4 a5 a6 r7.1).bind fun r8 =>
     let x9 : Int := (Int.tmod (wrap64 (a5 + 1)) 65536)
     bif !((65536 : Int) == 0) then
      some (r8.1, r7.1, r8.2.1, a1, a2, a3, a4, x9, a6, ())
     else none
    else none
noncomputable def spec_TakeChain.ent : Entry := ⟨[false, false], [.cell (.val .bor (.str)), .agg [.val .bor (.int .i64), .val .bor (.int .i64), .val .bor (.int .i64), .val .bor (.int .i64), .val .bor (.int .i64), .val .bor (.int .i64)]], [.agg [.val .bor (.int .i64), .val .bor (.int .i64), .val .own (.slice R1), .val .bor (.int .i64), .val .bor (.int .i64), .val .bor (.int .i64), .val .bor (.int .i64), .val .bor (.int .i64), .val .bor (.int .i64)]], [], fun v => spec_TakeChain v.1 v.2.1 v.2.2.1 v.2.2.2.1 v.2.2.2.2.1 v.2.2.2.2.2.1 v.2.2.2.2.2.2.1⟩
theorem spec_TakeChain.eq : ∀ v, evFn spec_TakeChain.E f14 spec_TakeChain.ent.ptrs spec_TakeChain.ent.ins spec_TakeChain.ent.rets spec_TakeChain.ent.outs v = spec_TakeChain.ent.f v := by intro v; kernel_rfl
theorem spec_TakeChain.fok : ∀ q ∈ [((48 : Nat), spec_QueueFault.ent), ((51 : Nat), spec_l01Word.ent), ((62 : Nat), spec_l01Mod.ent), ((63 : Nat), spec_ReadChain.ent)], EntryOK Pr q.1 q.2 := by
 intro q hq
 simp only [List.mem_cons, List.mem_nil_iff, or_false] at hq
 rcases hq with rfl | rfl | rfl | rfl
 · exact spec_QueueFault.ok
 · exact spec_l01Word.ok
 · exact spec_l01Mod.ok
 · exact spec_ReadChain.ok
theorem spec_TakeChain.ls : loopsOf (bodyOf f14) = [] := by kernel_rfl
theorem spec_TakeChain.ok : EntryOK Pr 14 spec_TakeChain.ent :=
 entry_ok (E := spec_TakeChain.E) (EnvOK.of dok spec_TakeChain.fok) mixed (fn := f14) (by kernel_rfl) (by kernel_rfl) (by decide) spec_TakeChain.ls (by intro l hl; simp at hl) spec_TakeChain.eq
/-! ### loop.example/g00038/impl.ygiveChain -/
noncomputable def impl_ygiveChain.E : Env := ⟨D, [], [(58, impl_yset.ent), (59, impl_ywordAt.ent)], []⟩
noncomputable def impl_ygiveChain (a0 : ByteArray) (a1 : Int) (a2 : Int) (a3 : Int) (a4 : Int) (a5 : Int) (a6 : Int) (a7 : Int) (a8 : Int) : Option (Int × ByteArray × Int × Int × Int × Int × Int × Int × Bool × Unit) :=
 let x1 : Int := (wrap64 ((8 : Int) * (Int.tmod a6 a1)))
 let x2 : Int := (wrap64 ((wrap64 (a4 + 8)) + x1))
 (impl_yset a0 x2 [a7, a8]).bind fun r3 =>
 bif !(a1 == 0) then
  let x4 : Int := (Int.tmod (wrap64 (a6 + 1)) 65536)
  bif !((65536 : Int) == 0) then
   (impl_yset r3.1 (wrap64 (a4 + 4)) [x4]).bind fun r5 =>
   (impl_ywordAt r5.1 a3).bind fun r6 =>
   let b7 : Bool := ((bits .and .i64 r6.1 1) == 0)
   some (0, r5.1, a1, a2, a3, a4, a5, x4, b7, ())
  else none
 else none
noncomputable def impl_ygiveChain.ent : Entry := ⟨[false, false, false, false], [.cell (.val .bor (.str)), .agg [.val .bor (.int .i64), .val .bor (.int .i64), .val .bor (.int .i64), .val .bor (.int .i64), .val .bor (.int .i64), .val .bor (.int .i64)], .cell (.val .bor (.int .i64)), .cell (.val .bor (.int .i64))], [.agg [.val .bor (.int .i64), .val .bor (.str), .val .bor (.int .i64), .val .bor (.int .i64), .val .bor (.int .i64), .val .bor (.int .i64), .val .bor (.int .i64), .val .bor (.int .i64), .val .bor (.bool)]], [], fun v => impl_ygiveChain v.1 v.2.1 v.2.2.1 v.2.2.2.1 v.2.2.2.2.1 v.2.2.2.2.2.1 v.2.2.2.2.2.2.1 v.2.2.2.2.2.2.2.1 v.2.2.2.2.2.2.2.2.1⟩
theorem impl_ygiveChain.eq : ∀ v, evFn impl_ygiveChain.E f64 impl_ygiveChain.ent.ptrs impl_ygiveChain.ent.ins impl_ygiveChain.ent.rets impl_ygiveChain.ent.outs v = impl_ygiveChain.ent.f v := by intro v; kernel_rfl
theorem impl_ygiveChain.fok : ∀ q ∈ [((58 : Nat), impl_yset.ent), ((59 : Nat), impl_ywordAt.ent)], EntryOK Pr q.1 q.2 := by
 intro q hq
 simp only [List.mem_cons, List.mem_nil_iff, or_false] at hq
 rcases hq with rfl | rfl
 · exact impl_yset.ok
 · exact impl_ywordAt.ok
theorem impl_ygiveChain.ls : loopsOf (bodyOf f64) = [] := by kernel_rfl
theorem impl_ygiveChain.ok : EntryOK Pr 64 impl_ygiveChain.ent :=
 entry_ok (E := impl_ygiveChain.E) (EnvOK.of dok impl_ygiveChain.fok) mixed (fn := f64) (by kernel_rfl) (by kernel_rfl) (by decide) impl_ygiveChain.ls (by intro l hl; simp at hl) impl_ygiveChain.eq
/-! ### loop.example/g00038/impl.GiveChain -/
noncomputable def impl_GiveChain.E : Env := ⟨D, [], [(60, impl_ymemQueue.ent), (54, impl_yin.ent), (57, impl_yisWord.ent), (64, impl_ygiveChain.ent)], []⟩
noncomputable def impl_GiveChain (a0 : ByteArray) (a1 : Int) (a2 : Int) (a3 : Int) (a4 : Int) (a5 : Int) (a6 : Int) (a7 : Int) (a8 : Int) : Option (Int × ByteArray × Int × Int × Int × Int × Int × Int × Bool × Unit) :=
 (impl_ymemQueue a0 a1 a2 a3 a4 a5 a6).bind fun r1 =>
 bif (r1.1 != 0) then
  some (r1.1, ByteArray.empty, 0, 0, 0, 0, 0, 0, false, ())
 else
  (impl_yin a7 0 (wrap64 (a1 - 1))).bind fun r2 =>
  let r3 : Bool × Unit := (impl_yisWord a8).getD (false, ())
  bif (!(!(!r2.1)) || ((impl_yisWord a8).isSome)) then
   bif (!r2.1 || !r3.1) then
    some (1, ByteArray.empty, 0, 0, 0, 0, 0, 0, false, ())
   else
    (impl_ygiveChain a0 a1 a2 a3 a4 a5 a6 a7 a8).bind fun r4 =>
    some (r4.1, r4.2.1, r4.2.2.1, r4.2.2.2.1, r4.2.2.2.2.1, r4.2.2.2.2.2.1, r4.2.2.2.2.2.2.1, r4.2.2.2.2.2.2.2.1, r4.2.2.2.2.2.2.2.2.1, ())
  else none
noncomputable def impl_GiveChain.ent : Entry := ⟨[false, false, false, false], [.cell (.val .bor (.str)), .agg [.val .bor (.int .i64), .val .bor (.int .i64), .val .bor (.int .i64), .val .bor (.int .i64), .val .bor (.int .i64), .val .bor (.int .i64)], .cell (.val .bor (.int .i64)), .cell (.val .bor (.int .i64))], [.agg [.val .bor (.int .i64), .val .bor (.str), .val .bor (.int .i64), .val .bor (.int .i64), .val .bor (.int .i64), .val .bor (.int .i64), .val .bor (.int .i64), .val .bor (.int .i64), .val .bor (.bool)]], [], fun v => impl_GiveChain v.1 v.2.1 v.2.2.1 v.2.2.2.1 v.2.2.2.2.1 v.2.2.2.2.2.1 v.2.2.2.2.2.2.1 v.2.2.2.2.2.2.2.1 v.2.2.2.2.2.2.2.2.1⟩
theorem impl_GiveChain.eq : ∀ v, evFn impl_GiveChain.E f15 impl_GiveChain.ent.ptrs impl_GiveChain.ent.ins impl_GiveChain.ent.rets impl_GiveChain.ent.outs v = impl_GiveChain.ent.f v := by intro v; kernel_rfl
theorem impl_GiveChain.fok : ∀ q ∈ [((60 : Nat), impl_ymemQueue.ent), ((54 : Nat), impl_yin.ent), ((57 : Nat), impl_yisWord.ent), ((64 : Nat), impl_ygiveChain.ent)], EntryOK Pr q.1 q.2 := by
 intro q hq
 simp only [List.mem_cons, List.mem_nil_iff, or_false] at hq
 rcases hq with rfl | rfl | rfl | rfl
 · exact impl_ymemQueue.ok
 · exact impl_yin.ok
 · exact impl_yisWord.ok
 · exact impl_ygiveChain.ok
theorem impl_GiveChain.ls : loopsOf (bodyOf f15) = [] := by kernel_rfl
theorem impl_GiveChain.ok : EntryOK Pr 15 impl_GiveChain.ent :=
 entry_ok (E := impl_GiveChain.E) (EnvOK.of dok impl_GiveChain.fok) mixed (fn := f15) (by kernel_rfl) (by kernel_rfl) (by decide) impl_GiveChain.ls (by intro l hl; simp at hl) impl_GiveChain.eq
/-! ### loop.example/g00038/laws.FnChains -/
noncomputable def laws_FnChains.E15 : Env := ⟨D, [], [(8, spec_DrawPostChain_v3.ent), (9, spec_PostChain.ent), (10, impl_PostChain.ent), (11, laws_lwApart.ent), (12, spec_GetWord.ent), (13, impl_TakeChain.ent), (14, spec_TakeChain.ent), (15, impl_GiveChain.ent)], []⟩
noncomputable def laws_FnChains_l15_step (rec : ByteArray → Int → Int → Int → Int → Int → Int → Int → Int → Int → Int → ByteArray → Int → Int → Int → Int → Int → Int → Bool → Int → Int → List V1 → Int → Int → Int → Int → Int → Int → List V1 → Option ((Int × Int × Int × Int × Int × Int × Int × Int × Int × ByteArray × Int × Int × Int × Int × Int × Int × Bool × Int × Int × List V1 × Int × Int × Int × Int × Int × Int × List V1 × Unit))) (y0 : ByteArray) (y1 : Int) (y2 : Int) (y3 : Int) (y4 : Int) (y5 : Int) (y6 : Int) (y7 : Int) (y8 : Int) (y9 : Int) (y10 : Int) (y11 : ByteArray) (y12 : Int) (y13 : Int) (y14 : Int) (y15 : Int) (y16 : Int) (y17 : Int) (y18 : Bool) (y19 : Int) (y20 : Int) (y21 : List V1) (y22 : Int) (y23 : Int) (y24 : Int) (y25 : Int) (y26 : Int) (y27 : Int) (y28 : List V1) : Option ((Int × Int × Int × Int × Int × Int × Int × Int × Int × ByteArray × Int × Int × Int × Int × Int × Int × Bool × Int × Int × List V1 × Int × Int × Int × Int × Int × Int × List V1 × Unit)) :=
 let b14 : Bool := decide (y3 < (y28.length : Int))
 bif (b14 && (y2 == 0)) then
  let e15 : V1 := rd R1 y28 y3
  let x16 : Int := (wrap64 (e15.1 + e15.2.1))
  let b17 : Bool := decide (x16 > (y0.size : Int))
  bif (decide (0 ≤ y3) && decide (y3 < (y28.length : Int))) && (decide (0 ≤ y3) && decide (y3 < (y28.length : Int))) then
   let e18 : V1 := rd R1 y28 (wrap64 (y3 - 1))
   let b19 : Bool := (decide (y3 > 0) && e18.2.2)
   let s20 : ByteArray := (bif (b19 && !e15.2.2) then y0 else y0)
   let x21 : Int := (bif (b19 && !e15.2.2) then y1 else y1)
   let x22 : Int := (bif (b19 && !e15.2.2) then 6 else y2)
   let x23 : Int := (bif (b19 && !e15.2.2) then y3 else y3)
   let x41 : Int := (bif (b19 && !e15.2.2) then y4 else y4)
   let x42 : Int := (bif (b19 && !e15.2.2) then y5 else y5)
   let x43 : Int := (bif (b19 && !e15.2.2) then y6 else y6)
   let x44 : Int := (bif (b19 && !e15.2.2) then y7 else y7)
   let x45 : Int := (bif (b19 && !e15.2.2) then y8 else y8)
   let x46 : Int := (bif (b19 && !e15.2.2) then y9 else y9)
   let x47 : Int := (bif (b19 && !e15.2.2) then y10 else y10)
   let s48 : ByteArray := (bif (b19 && !e15.2.2) then y11 else y11)
   let x49 : Int := (bif (b19 && !e15.2.2) then y12 else y12)
   let x50 : Int := (bif (b19 && !e15.2.2) then y13 else y13)
   let x51 : Int := (bif (b19 && !e15.2.2) then y14 else y14)
   let x52 : Int := (bif (b19 && !e15.2.2) then y15 else y15)
   let x53 : Int := (bif (b19 && !e15.2.2) then y16 else y16)
   let x54 : Int := (bif (b19 && !e15.2.2) then y17 else y17)
   let b55 : Bool := (bif (b19 && !e15.2.2) then y18 else y18)
   let x56 : Int := (bif (b19 && !e15.2.2) then y19 else y19)
   let x57 : Int := (bif (b19 && !e15.2.2) then y20 else y20)
   let l58 : List V1 := (bif (b19 && !e15.2.2) then y21 else y21)
   let x59 : Int := (bif (b19 && !e15.2.2) then y22 else y22)
   let x60 : Int := (bif (b19 && !e15.2.2) then y23 else y23)
   let x61 : Int := (bif (b19 && !e15.2.2) then y24 else y24)
   let x62 : Int := (bif (b19 && !e15.2.2) then y25 else y25)
   let x63 : Int := (bif (b19 && !e15.2.2) then y26 else y26)
   let x64 : Int := (bif (b19 && !e15.2.2) then y27 else y27)
   let l65 : List V1 := (bif (b19 && !e15.2.2) then y28 else y28)
   let s66 : ByteArray := (bif b17 then y0 else s20)
   let x67 : Int := (bif b17 then y1 else x21)
   let x68 : Int := (bif b17 then 2 else x22)
   let x69 : Int := (bif b17 then y3 else x23)
   let x80 : Int := (bif b17 then y4 else x41)
   let x81 : Int := (bif b17 then y5 else x42)
   let x82 : Int := (bif b17 then y6 else x43)
   let x83 : Int := (bif b17 then y7 else x44)
   let x84 : Int := (bif b17 then y8 else x45)
   let x85 : Int := (bif b17 then y9 else x46)
   let x86 : Int := (bif b17 then y10 else x47)
   let s87 : ByteArray := (bif b17 then y11 else s48)
   let x88 : Int := (bif b17 then y12 else x49)
   let x89 : Int := (bif b17 then y13 else x50)
   let x90 : Int := (bif b17 then y14 else x51)
   let x91 : Int := (bif b17 then y15 else x52)
   let x92 : Int := (bif b17 then y16 else x53)
   let x93 : Int := (bif b17 then y17 else x54)
   let b94 : Bool := (bif b17 then y18 else b55)
   let x95 : Int := (bif b17 then y19 else x56)
   let x96 : Int := (bif b17 then y20 else x57)
   let l97 : List V1 := (bif b17 then y21 else l58)
   let x98 : Int := (bif b17 then y22 else x59)
   let x99 : Int := (bif b17 then y23 else x60)
   let x100 : Int := (bif b17 then y24 else x61)
   let x101 : Int := (bif b17 then y25 else x62)
   let x102 : Int := (bif b17 then y26 else x63)
   let x103 : Int := (bif b17 then y27 else x64)
   let l104 : List V1 := (bif b17 then y28 else l65)
   bif (!(!b17) || (!(decide (y3 > 0)) || (decide (0 ≤ (wrap64 (y3 - 1))) && decide ((wrap64 (y3 - 1)) < (y28.length : Int))))) && (!(!b17) || (!b19 || (decide (0 ≤ y3) && decide (y3 < (y28.length : Int))))) then
    rec s66 x67 x68 (wrap64 (x69 + 1)) x80 x81 x82 x83 x84 x85 x86 s87 x88 x89 x90 x91 x92 x93 b94 x95 x96 l97 x98 x99 x100 x101 x102 x103 l104
   else none
  else none
 else
  some (y1, y2, y4, y5, y6, y7, y8, y9, y10, y11, y12, y13, y14, y15, y16, y17, y18, y19, y20, y21, y22, y23, y24, y25, y26, y27, y28, ())
noncomputable def laws_FnChains_l15 : Nat → ByteArray → Int → Int → Int → Int → Int → Int → Int → Int → Int → Int → ByteArray → Int → Int → Int → Int → Int → Int → Bool → Int → Int → List V1 → Int → Int → Int → Int → Int → Int → List V1 → Option ((Int × Int × Int × Int × Int × Int × Int × Int × Int × ByteArray × Int × Int × Int × Int × Int × Int × Bool × Int × Int × List V1 × Int × Int × Int × Int × Int × Int × List V1 × Unit))
 | 0 => fun _ _ _ _ _ _ _ _ _ _ _ _ _ _ _ _ _ _ _ _ _ _ _ _ _ _ _ _ _ => none
 | n + 1 => laws_FnChains_l15_step (laws_FnChains_l15 n)
noncomputable def laws_FnChains_l15.ent : LEntry := ⟨sk 3 (.cell (.val .bor (.str)) :: (.cell (.fix (.ptr 4 0)) :: (.cell (.val .bor (.int .i64)) :: (.cell (.fix (.view 21 8)) :: (sk 1 (.cell (.fix (.ptr 8 0)) :: (sk 1 (.cell (.fix (.ptr 10 0)) :: (.cell (.val .bor (.int .i64)) :: (.cell (.val .bor (.int .i64)) :: (sk 195 []))))))))))), rk 4 ([.val .bor (.int .i64), .val .bor (.int .i64), .val .bor (.int .i64), .val .bor (.int .i64), .val .bor (.int .i64), .val .bor (.int .i64)] :: (rk 3 ([.val .bor (.int .i64), .val .bor (.str), .val .bor (.int .i64), .val .bor (.int .i64), .val .bor (.int .i64), .val .bor (.int .i64), .val .bor (.int .i64), .val .bor (.int .i64), .val .bor (.bool)] :: (rk 1 ([.val .bor (.int .i64), .val .bor (.int .i64), .val .own (.slice R1), .val .bor (.int .i64), .val .bor (.int .i64), .val .bor (.int .i64), .val .bor (.int .i64), .val .bor (.int .i64), .val .bor (.int .i64)] :: (rk 10 ([.any, .any, .any, .any, .any, .any, .any, .any, .val .own (.slice R1)] :: (rk 186 [])))))))), [], [], [⟨some 0, sk 4 (.cell (.fix (.ptr 4 0)) :: (.cell (.val .bor (.int .i64)) :: (.cell (.fix (.view 21 8)) :: (sk 1 (.cell (.fix (.ptr 8 0)) :: (sk 1 (.cell (.fix (.ptr 10 0)) :: (.cell (.val .bor (.int .i64)) :: (sk 196 []))))))))), rk 4 ([.val .bor (.int .i64), .val .bor (.int .i64), .val .bor (.int .i64), .val .bor (.int .i64), .val .bor (.int .i64), .val .bor (.int .i64)] :: (rk 3 ([.val .bor (.int .i64), .val .bor (.str), .val .bor (.int .i64), .val .bor (.int .i64), .val .bor (.int .i64), .val .bor (.int .i64), .val .bor (.int .i64), .val .bor (.int .i64), .val .bor (.bool)] :: (rk 1 ([.val .bor (.int .i64), .val .bor (.int .i64), .val .own (.slice R1), .val .bor (.int .i64), .val .bor (.int .i64), .val .bor (.int .i64), .val .bor (.int .i64), .val .bor (.int .i64), .val .bor (.int .i64)] :: (rk 10 ([.any, .any, .any, .any, .any, .any, .any, .any, .val .own (.slice R1)] :: (rk 186 [])))))))), [], []⟩], fun v => laws_FnChains_l15 K0 v.1 v.2.1 v.2.2.1 v.2.2.2.1 v.2.2.2.2.1 v.2.2.2.2.2.1 v.2.2.2.2.2.2.1 v.2.2.2.2.2.2.2.1 v.2.2.2.2.2.2.2.2.1 v.2.2.2.2.2.2.2.2.2.1 v.2.2.2.2.2.2.2.2.2.2.1 v.2.2.2.2.2.2.2.2.2.2.2.1 v.2.2.2.2.2.2.2.2.2.2.2.2.1 v.2.2.2.2.2.2.2.2.2.2.2.2.2.1 v.2.2.2.2.2.2.2.2.2.2.2.2.2.2.1 v.2.2.2.2.2.2.2.2.2.2.2.2.2.2.2.1 v.2.2.2.2.2.2.2.2.2.2.2.2.2.2.2.2.1 v.2.2.2.2.2.2.2.2.2.2.2.2.2.2.2.2.2.1 v.2.2.2.2.2.2.2.2.2.2.2.2.2.2.2.2.2.2.1 v.2.2.2.2.2.2.2.2.2.2.2.2.2.2.2.2.2.2.2.1 v.2.2.2.2.2.2.2.2.2.2.2.2.2.2.2.2.2.2.2.2.1 v.2.2.2.2.2.2.2.2.2.2.2.2.2.2.2.2.2.2.2.2.2.1 v.2.2.2.2.2.2.2.2.2.2.2.2.2.2.2.2.2.2.2.2.2.2.1 v.2.2.2.2.2.2.2.2.2.2.2.2.2.2.2.2.2.2.2.2.2.2.2.1 v.2.2.2.2.2.2.2.2.2.2.2.2.2.2.2.2.2.2.2.2.2.2.2.2.1 v.2.2.2.2.2.2.2.2.2.2.2.2.2.2.2.2.2.2.2.2.2.2.2.2.2.1 v.2.2.2.2.2.2.2.2.2.2.2.2.2.2.2.2.2.2.2.2.2.2.2.2.2.2.1 v.2.2.2.2.2.2.2.2.2.2.2.2.2.2.2.2.2.2.2.2.2.2.2.2.2.2.2.1 v.2.2.2.2.2.2.2.2.2.2.2.2.2.2.2.2.2.2.2.2.2.2.2.2.2.2.2.2.1⟩
theorem laws_FnChains_l15.eq : ∀ rec v, evStep laws_FnChains.E15 (bodyAt 15 f3) laws_FnChains_l15.ent.ins laws_FnChains_l15.ent.rts laws_FnChains_l15.ent.hm laws_FnChains_l15.ent.nl laws_FnChains_l15.ent.xs rec v = laws_FnChains_l15_step (fun c0 c1 c2 c3 c4 c5 c6 c7 c8 c9 c10 c11 c12 c13 c14 c15 c16 c17 c18 c19 c20 c21 c22 c23 c24 c25 c26 c27 c28 => rec (c0, c1, c2, c3, c4, c5, c6, c7, c8, c9, c10, c11, c12, c13, c14, c15, c16, c17, c18, c19, c20, c21, c22, c23, c24, c25, c26, c27, c28, ())) v.1 v.2.1 v.2.2.1 v.2.2.2.1 v.2.2.2.2.1 v.2.2.2.2.2.1 v.2.2.2.2.2.2.1 v.2.2.2.2.2.2.2.1 v.2.2.2.2.2.2.2.2.1 v.2.2.2.2.2.2.2.2.2.1 v.2.2.2.2.2.2.2.2.2.2.1 v.2.2.2.2.2.2.2.2.2.2.2.1 v.2.2.2.2.2.2.2.2.2.2.2.2.1 v.2.2.2.2.2.2.2.2.2.2.2.2.2.1 v.2.2.2.2.2.2.2.2.2.2.2.2.2.2.1 v.2.2.2.2.2.2.2.2.2.2.2.2.2.2.2.1 v.2.2.2.2.2.2.2.2.2.2.2.2.2.2.2.2.1 v.2.2.2.2.2.2.2.2.2.2.2.2.2.2.2.2.2.1 v.2.2.2.2.2.2.2.2.2.2.2.2.2.2.2.2.2.2.1 v.2.2.2.2.2.2.2.2.2.2.2.2.2.2.2.2.2.2.2.1 v.2.2.2.2.2.2.2.2.2.2.2.2.2.2.2.2.2.2.2.2.1 v.2.2.2.2.2.2.2.2.2.2.2.2.2.2.2.2.2.2.2.2.2.1 v.2.2.2.2.2.2.2.2.2.2.2.2.2.2.2.2.2.2.2.2.2.2.1 v.2.2.2.2.2.2.2.2.2.2.2.2.2.2.2.2.2.2.2.2.2.2.2.1 v.2.2.2.2.2.2.2.2.2.2.2.2.2.2.2.2.2.2.2.2.2.2.2.2.1 v.2.2.2.2.2.2.2.2.2.2.2.2.2.2.2.2.2.2.2.2.2.2.2.2.2.1 v.2.2.2.2.2.2.2.2.2.2.2.2.2.2.2.2.2.2.2.2.2.2.2.2.2.2.1 v.2.2.2.2.2.2.2.2.2.2.2.2.2.2.2.2.2.2.2.2.2.2.2.2.2.2.2.1 v.2.2.2.2.2.2.2.2.2.2.2.2.2.2.2.2.2.2.2.2.2.2.2.2.2.2.2.2.1 := by intro rec v; kernel_rfl
noncomputable def laws_FnChains.E29 : Env := ⟨D, [], [(8, spec_DrawPostChain_v3.ent), (9, spec_PostChain.ent), (10, impl_PostChain.ent), (11, laws_lwApart.ent), (12, spec_GetWord.ent), (13, impl_TakeChain.ent), (14, spec_TakeChain.ent), (15, impl_GiveChain.ent)], [(15, laws_FnChains_l15.ent)]⟩
noncomputable def laws_FnChains_l29_step (rec : Int → Int → Int → Int → Int → Int → Int → Int → ByteArray → Int → Int → Int → Int → Int → Int → Bool → Int → Int → List V1 → Int → Int → Int → Int → Int → Int → List V1 → Option ((Bool × Unit) ⊕ (Int × Int × Int × Int × Int × Int × Int × ByteArray × Int × Int × Int × Int × Int × Int × Bool × Int × Int × List V1 × Int × Int × Int × Int × Int × Int × Unit))) (y0 : Int) (y1 : Int) (y2 : Int) (y3 : Int) (y4 : Int) (y5 : Int) (y6 : Int) (y7 : Int) (y8 : ByteArray) (y9 : Int) (y10 : Int) (y11 : Int) (y12 : Int) (y13 : Int) (y14 : Int) (y15 : Bool) (y16 : Int) (y17 : Int) (y18 : List V1) (y19 : Int) (y20 : Int) (y21 : Int) (y22 : Int) (y23 : Int) (y24 : Int) (y25 : List V1) : Option ((Bool × Unit) ⊕ (Int × Int × Int × Int × Int × Int × Int × ByteArray × Int × Int × Int × Int × Int × Int × Bool × Int × Int × List V1 × Int × Int × Int × Int × Int × Int × Unit)) :=
 let b111 : Bool := decide (y0 < (y25.length : Int))
 bif b111 then
  let e112 : V1 := rd R1 y18 y0
  let e113 : V1 := rd R1 y25 y0
  let b114 : Bool := !((e112.1 == e113.1) && ((e112.2.1 == e113.2.1) && (e112.2.2 == e113.2.2)))
  bif (decide (0 ≤ y0) && decide (y0 < (y18.length : Int))) && (decide (0 ≤ y0) && decide (y0 < (y25.length : Int))) then
   bif b114 then
    some (Sum.inl (false, ()))
   else
    rec (wrap64 (y0 + 1)) y1 y2 y3 y4 y5 y6 y7 y8 y9 y10 y11 y12 y13 y14 y15 y16 y17 y18 y19 y20 y21 y22 y23 y24 y25
  else none
 else
  some (Sum.inr (y1, y2, y3, y4, y5, y6, y7, y8, y9, y10, y11, y12, y13, y14, y15, y16, y17, y18, y19, y20, y21, y22, y23, y24, ()))
noncomputable def laws_FnChains_l29 : Nat → Int → Int → Int → Int → Int → Int → Int → Int → ByteArray → Int → Int → Int → Int → Int → Int → Bool → Int → Int → List V1 → Int → Int → Int → Int → Int → Int → List V1 → Option ((Bool × Unit) ⊕ (Int × Int × Int × Int × Int × Int × Int × ByteArray × Int × Int × Int × Int × Int × Int × Bool × Int × Int × List V1 × Int × Int × Int × Int × Int × Int × Unit))
 | 0 => fun _ _ _ _ _ _ _ _ _ _ _ _ _ _ _ _ _ _ _ _ _ _ _ _ _ _ => none
 | n + 1 => laws_FnChains_l29_step (laws_FnChains_l29 n)
noncomputable def laws_FnChains_l29.ent : LEntry := ⟨sk 4 (.cell (.fix (.ptr 4 0)) :: (sk 1 (.cell (.fix (.view 21 8)) :: (sk 1 (.cell (.fix (.ptr 8 0)) :: (sk 1 (.cell (.fix (.ptr 10 0)) :: (sk 3 (.cell (.val .bor (.int .i64)) :: (sk 193 [])))))))))), rk 4 ([.val .bor (.int .i64), .val .bor (.int .i64), .val .bor (.int .i64), .val .bor (.int .i64), .val .bor (.int .i64), .val .bor (.int .i64)] :: (rk 3 ([.val .bor (.int .i64), .val .bor (.str), .val .bor (.int .i64), .val .bor (.int .i64), .val .bor (.int .i64), .val .bor (.int .i64), .val .bor (.int .i64), .val .bor (.int .i64), .val .bor (.bool)] :: (rk 1 ([.val .bor (.int .i64), .val .bor (.int .i64), .val .own (.slice R1), .val .bor (.int .i64), .val .bor (.int .i64), .val .bor (.int .i64), .val .bor (.int .i64), .val .bor (.int .i64), .val .bor (.int .i64)] :: (rk 10 ([.any, .any, .any, .any, .any, .any, .any, .any, .val .own (.slice R1)] :: (rk 186 [])))))))), [], [], [⟨none, sk 2 (.cell (.val .bor (.bool)) :: (sk 205 [])), rk 208 [], [], []⟩, ⟨some 2, sk 4 (.cell (.fix (.ptr 4 0)) :: (sk 3 (.cell (.fix (.ptr 8 0)) :: (sk 1 (.cell (.fix (.ptr 10 0)) :: (sk 197 [])))))), rk 4 ([.val .bor (.int .i64), .val .bor (.int .i64), .val .bor (.int .i64), .val .bor (.int .i64), .val .bor (.int .i64), .val .bor (.int .i64)] :: (rk 3 ([.val .bor (.int .i64), .val .bor (.str), .val .bor (.int .i64), .val .bor (.int .i64), .val .bor (.int .i64), .val .bor (.int .i64), .val .bor (.int .i64), .val .bor (.int .i64), .val .bor (.bool)] :: (rk 1 ([.val .bor (.int .i64), .val .bor (.int .i64), .val .own (.slice R1), .val .bor (.int .i64), .val .bor (.int .i64), .val .bor (.int .i64), .val .bor (.int .i64), .val .bor (.int .i64), .val .bor (.int .i64)] :: (rk 197 [])))))), [], []⟩], fun v => laws_FnChains_l29 K0 v.1 v.2.1 v.2.2.1 v.2.2.2.1 v.2.2.2.2.1 v.2.2.2.2.2.1 v.2.2.2.2.2.2.1 v.2.2.2.2.2.2.2.1 v.2.2.2.2.2.2.2.2.1 v.2.2.2.2.2.2.2.2.2.1 v.2.2.2.2.2.2.2.2.2.2.1 v.2.2.2.2.2.2.2.2.2.2.2.1 v.2.2.2.2.2.2.2.2.2.2.2.2.1 v.2.2.2.2.2.2.2.2.2.2.2.2.2.1 v.2.2.2.2.2.2.2.2.2.2.2.2.2.2.1 v.2.2.2.2.2.2.2.2.2.2.2.2.2.2.2.1 v.2.2.2.2.2.2.2.2.2.2.2.2.2.2.2.2.1 v.2.2.2.2.2.2.2.2.2.2.2.2.2.2.2.2.2.1 v.2.2.2.2.2.2.2.2.2.2.2.2.2.2.2.2.2.2.1 v.2.2.2.2.2.2.2.2.2.2.2.2.2.2.2.2.2.2.2.1 v.2.2.2.2.2.2.2.2.2.2.2.2.2.2.2.2.2.2.2.2.1 v.2.2.2.2.2.2.2.2.2.2.2.2.2.2.2.2.2.2.2.2.2.1 v.2.2.2.2.2.2.2.2.2.2.2.2.2.2.2.2.2.2.2.2.2.2.1 v.2.2.2.2.2.2.2.2.2.2.2.2.2.2.2.2.2.2.2.2.2.2.2.1 v.2.2.2.2.2.2.2.2.2.2.2.2.2.2.2.2.2.2.2.2.2.2.2.2.1 v.2.2.2.2.2.2.2.2.2.2.2.2.2.2.2.2.2.2.2.2.2.2.2.2.2.1⟩
theorem laws_FnChains_l29.eq : ∀ rec v, evStep laws_FnChains.E29 (bodyAt 29 f3) laws_FnChains_l29.ent.ins laws_FnChains_l29.ent.rts laws_FnChains_l29.ent.hm laws_FnChains_l29.ent.nl laws_FnChains_l29.ent.xs rec v = laws_FnChains_l29_step (fun c0 c1 c2 c3 c4 c5 c6 c7 c8 c9 c10 c11 c12 c13 c14 c15 c16 c17 c18 c19 c20 c21 c22 c23 c24 c25 => rec (c0, c1, c2, c3, c4, c5, c6, c7, c8, c9, c10, c11, c12, c13, c14, c15, c16, c17, c18, c19, c20, c21, c22, c23, c24, c25, ())) v.1 v.2.1 v.2.2.1 v.2.2.2.1 v.2.2.2.2.1 v.2.2.2.2.2.1 v.2.2.2.2.2.2.1 v.2.2.2.2.2.2.2.1 v.2.2.2.2.2.2.2.2.1 v.2.2.2.2.2.2.2.2.2.1 v.2.2.2.2.2.2.2.2.2.2.1 v.2.2.2.2.2.2.2.2.2.2.2.1 v.2.2.2.2.2.2.2.2.2.2.2.2.1 v.2.2.2.2.2.2.2.2.2.2.2.2.2.1 v.2.2.2.2.2.2.2.2.2.2.2.2.2.2.1 v.2.2.2.2.2.2.2.2.2.2.2.2.2.2.2.1 v.2.2.2.2.2.2.2.2.2.2.2.2.2.2.2.2.1 v.2.2.2.2.2.2.2.2.2.2.2.2.2.2.2.2.2.1 v.2.2.2.2.2.2.2.2.2.2.2.2.2.2.2.2.2.2.1 v.2.2.2.2.2.2.2.2.2.2.2.2.2.2.2.2.2.2.2.1 v.2.2.2.2.2.2.2.2.2.2.2.2.2.2.2.2.2.2.2.2.1 v.2.2.2.2.2.2.2.2.2.2.2.2.2.2.2.2.2.2.2.2.2.1 v.2.2.2.2.2.2.2.2.2.2.2.2.2.2.2.2.2.2.2.2.2.2.1 v.2.2.2.2.2.2.2.2.2.2.2.2.2.2.2.2.2.2.2.2.2.2.2.1 v.2.2.2.2.2.2.2.2.2.2.2.2.2.2.2.2.2.2.2.2.2.2.2.2.1 v.2.2.2.2.2.2.2.2.2.2.2.2.2.2.2.2.2.2.2.2.2.2.2.2.2.1 := by intro rec v; kernel_rfl
noncomputable def laws_FnChains.E : Env := ⟨D, [], [(8, spec_DrawPostChain_v3.ent), (9, spec_PostChain.ent), (10, impl_PostChain.ent), (11, laws_lwApart.ent), (12, spec_GetWord.ent), (13, impl_TakeChain.ent), (14, spec_TakeChain.ent), (15, impl_GiveChain.ent)], [(15, laws_FnChains_l15.ent), (29, laws_FnChains_l29.ent)]⟩
noncomputable def laws_FnChains (a0 : List Int) : Option (Bool × Unit) :=
 let b1 : Bool := decide ((a0.length : Int) > 1048576)
 bif b1 then
  some (true, ())
 else
  (spec_DrawPostChain_v3 a0).bind fun r2 =>
  (spec_PostChain r2.1 r2.2.1 r2.2.2.1 r2.2.2.2.1 r2.2.2.2.2.1 r2.2.2.2.2.2.1 r2.2.2.2.2.2.2.1 r2.2.2.2.2.2.2.2.1 r2.2.2.2.2.2.2.2.2.1).bind fun r3 =>
  (impl_PostChain r2.1 r2.2.1 r2.2.2.1 r2.2.2.2.1 r2.2.2.2.2.1 r2.2.2.2.2.2.1 r2.2.2.2.2.2.2.1 r2.2.2.2.2.2.2.2.1 r2.2.2.2.2.2.2.2.2.1).bind fun r4 =>
  let b5 : Bool := ((r4.1 != r3.1) || !seq r4.2.1 r3.2.1)
  bif (b5 || (r4.1 != 0)) then
   let b6 : Bool := ((r4.1 == r3.1) && seq r4.2.1 r3.2.1)
   some (b6, ())
  else
   let x7 : Int := (wrap64 ((16 : Int) * r2.2.1))
   let x8 : Int := (wrap64 ((4 : Int) * r2.2.1))
   let x9 : Int := (wrap64 ((8 : Int) + x8))
   (laws_lwApart r2.2.2.1 x7 r2.2.2.2.1 x9).bind fun r10 =>
   bif !r10.1 then
    some (true, ())
   else
    let x11 : Int := (wrap64 (r2.2.2.2.1 + 4))
    (spec_GetWord r2.1 x11).bind fun r12 =>
    bif !((65536 : Int) == 0) then
     (impl_TakeChain r4.2.1 r2.2.1 r2.2.2.1 r2.2.2.2.1 r2.2.2.2.2.1 (Int.tmod r12.2.1 65536) r2.2.2.2.2.2.2.1).bind fun r13 =>
     (laws_FnChains_l15 K0 r2.1 r2.2.2.2.2.2.2.2.1 0 0 r2.2.1 r2.2.2.1 r2.2.2.2.1 r2.2.2.2.2.1 (Int.tmod r12.2.1 65536) r2.2.2.2.2.2.2.1 r4.1 r4.2.1 r4.2.2.1 r4.2.2.2.1 r4.2.2.2.2.1 r4.2.2.2.2.2.1 r4.2.2.2.2.2.2.1 r4.2.2.2.2.2.2.2.1 r4.2.2.2.2.2.2.2.2.1 r13.1 r13.2.1 r13.2.2.1 r13.2.2.2.1 r13.2.2.2.2.1 r13.2.2.2.2.2.1 r13.2.2.2.2.2.2.1 r13.2.2.2.2.2.2.2.1 r13.2.2.2.2.2.2.2.2.1 r2.2.2.2.2.2.2.2.2.1).bind fun o105 =>
     (spec_TakeChain o105.2.2.2.2.2.2.2.2.2.1 o105.2.2.1 o105.2.2.2.1 o105.2.2.2.2.1 o105.2.2.2.2.2.1 o105.2.2.2.2.2.2.1 o105.2.2.2.2.2.2.2.1).bind fun r106 =>
     let b107 : Bool := (o105.2.2.2.2.2.2.2.2.2.2.2.2.2.2.2.2.2.1 != r106.1)
     let b108 : Bool := (o105.2.2.2.2.2.2.2.2.2.2.2.2.2.2.2.2.2.2.1 != o105.1)
     let b109 : Bool := ((b107 || b108) || (r106.1 != o105.2.1))
     bif b109 then
      some (false, ())
     else
     bif (o105.2.1 != 0) then
      some (true, ())
     else
      let b110 : Bool := ((o105.2.2.2.2.2.2.2.2.2.2.2.2.2.2.2.2.2.2.2.1.length : Int) != (o105.2.2.2.2.2.2.2.2.2.2.2.2.2.2.2.2.2.2.2.2.2.2.2.2.2.2.1.length : Int))
      bif b110 then
       some (false, ())
      else
       (laws_FnChains_l29 K0 0 o105.2.2.1 o105.2.2.2.1 o105.2.2.2.2.1 o105.2.2.2.2.2.1 o105.2.2.2.2.2.2.1 o105.2.2.2.2.2.2.2.1 o105.2.2.2.2.2.2.2.2.1 o105.2.2.2.2.2.2.2.2.2.1 o105.2.2.2.2.2.2.2.2.2.2.1 o105.2.2.2.2.2.2.2.2.2.2.2.1 o105.2.2.2.2.2.2.2.2.2.2.2.2.1 o105.2.2.2.2.2.2.2.2.2.2.2.2.2.1 o105.2.2.2.2.2.2.2.2.2.2.2.2.2.2.1 o105.2.2.2.2.2.2.2.2.2.2.2.2.2.2.2.1 o105.2.2.2.2.2.2.2.2.2.2.2.2.2.2.2.2.1 o105.2.2.2.2.2.2.2.2.2.2.2.2.2.2.2.2.2.1 o105.2.2.2.2.2.2.2.2.2.2.2.2.2.2.2.2.2.2.1 o105.2.2.2.2.2.2.2.2.2.2.2.2.2.2.2.2.2.2.2.1 o105.2.2.2.2.2.2.2.2.2.2.2.2.2.2.2.2.2.2.2.2.1 o105.2.2.2.2.2.2.2.2.2.2.2.2.2.2.2.2.2.2.2.2.2.1 o105.2.2.2.2.2.2.2.2.2.2.2.2.2.2.2.2.2.2.2.2.2.2.1 o105.2.2.2.2.2.2.2.2.2.2.2.2.2.2.2.2.2.2.2.2.2.2.2.1 o105.2.2.2.2.2.2.2.2.2.2.2.2.2.2.2.2.2.2.2.2.2.2.2.2.1 o105.2.2.2.2.2.2.2.2.2.2.2.2.2.2.2.2.2.2.2.2.2.2.2.2.2.1 o105.2.2.2.2.2.2.2.2.2.2.2.2.2.2.2.2.2.2.2.2.2.2.2.2.2.2.1).bind fun o115 =>
       match o115 with
       | Sum.inl p116 =>
        some (p116.1, ())
       | Sum.inr p117 =>
        (impl_GiveChain p117.2.2.2.2.2.2.2.1 p117.2.2.2.2.2.2.2.2.2.2.2.2.2.2.2.2.2.2.1 p117.2.2.2.2.2.2.2.2.2.2.2.2.2.2.2.2.2.2.2.1 p117.2.2.2.2.2.2.2.2.2.2.2.2.2.2.2.2.2.2.2.2.1 p117.2.2.2.2.2.2.2.2.2.2.2.2.2.2.2.2.2.2.2.2.2.1 p117.2.2.2.2.2.2.2.2.2.2.2.2.2.2.2.2.2.2.2.2.2.2.1 p117.2.2.2.2.2.2.2.2.2.2.2.2.2.2.2.2.2.2.2.2.2.2.2.1 p117.2.2.2.2.2.2.2.2.2.2.2.2.2.2.2.2.1 5).bind fun r118 =>
        let x119 : Int := (wrap64 (p117.2.2.2.2.2.1 + 1))
        let b120 : Bool := (r118.2.2.2.2.2.2.2.1 == (Int.tmod x119 65536))
        let x121 : Int := (wrap64 (p117.2.2.2.2.1 + 1))
        let b122 : Bool := (p117.2.2.2.2.2.2.2.2.2.2.2.2.2.2.2.2.2.2.2.2.2.2.1 == (Int.tmod x121 65536))
        let b123 : Bool := (((r118.1 == 0) && b120) && b122)
        bif (!(r118.1 == 0) || (!((65536 : Int) == 0))) && (!((r118.1 == 0) && b120) || (!((65536 : Int) == 0))) then
         some (b123, ())
        else none
    else none
noncomputable def laws_FnChains.ent : Entry := ⟨[false], [.cell (.val .imm (.slice (.int .u8)))], [.cell (.val .bor (.bool))], [], fun v => laws_FnChains v.1⟩
theorem laws_FnChains.eq : ∀ v, evFn laws_FnChains.E f3 laws_FnChains.ent.ptrs laws_FnChains.ent.ins laws_FnChains.ent.rets laws_FnChains.ent.outs v = laws_FnChains.ent.f v := by intro v; kernel_rfl
theorem laws_FnChains.fok : ∀ q ∈ [((8 : Nat), spec_DrawPostChain_v3.ent), ((9 : Nat), spec_PostChain.ent), ((10 : Nat), impl_PostChain.ent), ((11 : Nat), laws_lwApart.ent), ((12 : Nat), spec_GetWord.ent), ((13 : Nat), impl_TakeChain.ent), ((14 : Nat), spec_TakeChain.ent), ((15 : Nat), impl_GiveChain.ent)], EntryOK Pr q.1 q.2 := by
 intro q hq
 simp only [List.mem_cons, List.mem_nil_iff, or_false] at hq
 rcases hq with rfl | rfl | rfl | rfl | rfl | rfl | rfl | rfl
 · exact spec_DrawPostChain_v3.ok
 · exact spec_PostChain.ok
 · exact impl_PostChain.ok
 · exact laws_lwApart.ok
 · exact spec_GetWord.ok
 · exact impl_TakeChain.ok
 · exact spec_TakeChain.ok
 · exact impl_GiveChain.ok
theorem laws_FnChains_l15.it : ∀ n v, iter (evStep laws_FnChains.E15 (bodyAt 15 f3) laws_FnChains_l15.ent.ins laws_FnChains_l15.ent.rts laws_FnChains_l15.ent.hm laws_FnChains_l15.ent.nl laws_FnChains_l15.ent.xs) n v = laws_FnChains_l15 n v.1 v.2.1 v.2.2.1 v.2.2.2.1 v.2.2.2.2.1 v.2.2.2.2.2.1 v.2.2.2.2.2.2.1 v.2.2.2.2.2.2.2.1 v.2.2.2.2.2.2.2.2.1 v.2.2.2.2.2.2.2.2.2.1 v.2.2.2.2.2.2.2.2.2.2.1 v.2.2.2.2.2.2.2.2.2.2.2.1 v.2.2.2.2.2.2.2.2.2.2.2.2.1 v.2.2.2.2.2.2.2.2.2.2.2.2.2.1 v.2.2.2.2.2.2.2.2.2.2.2.2.2.2.1 v.2.2.2.2.2.2.2.2.2.2.2.2.2.2.2.1 v.2.2.2.2.2.2.2.2.2.2.2.2.2.2.2.2.1 v.2.2.2.2.2.2.2.2.2.2.2.2.2.2.2.2.2.1 v.2.2.2.2.2.2.2.2.2.2.2.2.2.2.2.2.2.2.1 v.2.2.2.2.2.2.2.2.2.2.2.2.2.2.2.2.2.2.2.1 v.2.2.2.2.2.2.2.2.2.2.2.2.2.2.2.2.2.2.2.2.1 v.2.2.2.2.2.2.2.2.2.2.2.2.2.2.2.2.2.2.2.2.2.1 v.2.2.2.2.2.2.2.2.2.2.2.2.2.2.2.2.2.2.2.2.2.2.1 v.2.2.2.2.2.2.2.2.2.2.2.2.2.2.2.2.2.2.2.2.2.2.2.1 v.2.2.2.2.2.2.2.2.2.2.2.2.2.2.2.2.2.2.2.2.2.2.2.2.1 v.2.2.2.2.2.2.2.2.2.2.2.2.2.2.2.2.2.2.2.2.2.2.2.2.2.1 v.2.2.2.2.2.2.2.2.2.2.2.2.2.2.2.2.2.2.2.2.2.2.2.2.2.2.1 v.2.2.2.2.2.2.2.2.2.2.2.2.2.2.2.2.2.2.2.2.2.2.2.2.2.2.2.1 v.2.2.2.2.2.2.2.2.2.2.2.2.2.2.2.2.2.2.2.2.2.2.2.2.2.2.2.2.1 := by
 intro n
 induction n with
 | zero => intro v; rfl
 | succ n ih =>
  intro v
  show (evStep laws_FnChains.E15 (bodyAt 15 f3) laws_FnChains_l15.ent.ins laws_FnChains_l15.ent.rts laws_FnChains_l15.ent.hm laws_FnChains_l15.ent.nl laws_FnChains_l15.ent.xs) (iter (evStep laws_FnChains.E15 (bodyAt 15 f3) laws_FnChains_l15.ent.ins laws_FnChains_l15.ent.rts laws_FnChains_l15.ent.hm laws_FnChains_l15.ent.nl laws_FnChains_l15.ent.xs) n) v = _
  rw [laws_FnChains_l15.eq, show (fun c0 c1 c2 c3 c4 c5 c6 c7 c8 c9 c10 c11 c12 c13 c14 c15 c16 c17 c18 c19 c20 c21 c22 c23 c24 c25 c26 c27 c28 => iter (evStep laws_FnChains.E15 (bodyAt 15 f3) laws_FnChains_l15.ent.ins laws_FnChains_l15.ent.rts laws_FnChains_l15.ent.hm laws_FnChains_l15.ent.nl laws_FnChains_l15.ent.xs) n (c0, c1, c2, c3, c4, c5, c6, c7, c8, c9, c10, c11, c12, c13, c14, c15, c16, c17, c18, c19, c20, c21, c22, c23, c24, c25, c26, c27, c28, ())) = laws_FnChains_l15 n from by funext c0 c1 c2 c3 c4 c5 c6 c7 c8 c9 c10 c11 c12 c13 c14 c15 c16 c17 c18 c19 c20 c21 c22 c23 c24 c25 c26 c27 c28; exact ih _]
  rfl
theorem laws_FnChains_l15.fr : firstRegion (bodyAt 15 f3) = 15 := by kernel_rfl
theorem laws_FnChains_l15.ls : loopsOf (bodyAt 15 f3) = [] := by kernel_rfl
theorem laws_FnChains_l15.lok {E : Env} (hpin : laws_FnChains.E15.pin = E.pin) (hfind : find 15 E.loops = some laws_FnChains_l15.ent) : LoopOK Pr E (bodyAt 15 f3) :=
 loop_of (E1 := laws_FnChains.E15) (EnvOK.of dok laws_FnChains.fok) mixed hpin (by rw [laws_FnChains_l15.fr]; exact hfind) laws_FnChains_l15.ls (by intro l hl; simp at hl) (fun v => (laws_FnChains_l15.it K0 v).symm)
theorem laws_FnChains_l29.it : ∀ n v, iter (evStep laws_FnChains.E29 (bodyAt 29 f3) laws_FnChains_l29.ent.ins laws_FnChains_l29.ent.rts laws_FnChains_l29.ent.hm laws_FnChains_l29.ent.nl laws_FnChains_l29.ent.xs) n v = laws_FnChains_l29 n v.1 v.2.1 v.2.2.1 v.2.2.2.1 v.2.2.2.2.1 v.2.2.2.2.2.1 v.2.2.2.2.2.2.1 v.2.2.2.2.2.2.2.1 v.2.2.2.2.2.2.2.2.1 v.2.2.2.2.2.2.2.2.2.1 v.2.2.2.2.2.2.2.2.2.2.1 v.2.2.2.2.2.2.2.2.2.2.2.1 v.2.2.2.2.2.2.2.2.2.2.2.2.1 v.2.2.2.2.2.2.2.2.2.2.2.2.2.1 v.2.2.2.2.2.2.2.2.2.2.2.2.2.2.1 v.2.2.2.2.2.2.2.2.2.2.2.2.2.2.2.1 v.2.2.2.2.2.2.2.2.2.2.2.2.2.2.2.2.1 v.2.2.2.2.2.2.2.2.2.2.2.2.2.2.2.2.2.1 v.2.2.2.2.2.2.2.2.2.2.2.2.2.2.2.2.2.2.1 v.2.2.2.2.2.2.2.2.2.2.2.2.2.2.2.2.2.2.2.1 v.2.2.2.2.2.2.2.2.2.2.2.2.2.2.2.2.2.2.2.2.1 v.2.2.2.2.2.2.2.2.2.2.2.2.2.2.2.2.2.2.2.2.2.1 v.2.2.2.2.2.2.2.2.2.2.2.2.2.2.2.2.2.2.2.2.2.2.1 v.2.2.2.2.2.2.2.2.2.2.2.2.2.2.2.2.2.2.2.2.2.2.2.1 v.2.2.2.2.2.2.2.2.2.2.2.2.2.2.2.2.2.2.2.2.2.2.2.2.1 v.2.2.2.2.2.2.2.2.2.2.2.2.2.2.2.2.2.2.2.2.2.2.2.2.2.1 := by
 intro n
 induction n with
 | zero => intro v; rfl
 | succ n ih =>
  intro v
  show (evStep laws_FnChains.E29 (bodyAt 29 f3) laws_FnChains_l29.ent.ins laws_FnChains_l29.ent.rts laws_FnChains_l29.ent.hm laws_FnChains_l29.ent.nl laws_FnChains_l29.ent.xs) (iter (evStep laws_FnChains.E29 (bodyAt 29 f3) laws_FnChains_l29.ent.ins laws_FnChains_l29.ent.rts laws_FnChains_l29.ent.hm laws_FnChains_l29.ent.nl laws_FnChains_l29.ent.xs) n) v = _
  rw [laws_FnChains_l29.eq, show (fun c0 c1 c2 c3 c4 c5 c6 c7 c8 c9 c10 c11 c12 c13 c14 c15 c16 c17 c18 c19 c20 c21 c22 c23 c24 c25 => iter (evStep laws_FnChains.E29 (bodyAt 29 f3) laws_FnChains_l29.ent.ins laws_FnChains_l29.ent.rts laws_FnChains_l29.ent.hm laws_FnChains_l29.ent.nl laws_FnChains_l29.ent.xs) n (c0, c1, c2, c3, c4, c5, c6, c7, c8, c9, c10, c11, c12, c13, c14, c15, c16, c17, c18, c19, c20, c21, c22, c23, c24, c25, ())) = laws_FnChains_l29 n from by funext c0 c1 c2 c3 c4 c5 c6 c7 c8 c9 c10 c11 c12 c13 c14 c15 c16 c17 c18 c19 c20 c21 c22 c23 c24 c25; exact ih _]
  rfl
theorem laws_FnChains_l29.fr : firstRegion (bodyAt 29 f3) = 29 := by kernel_rfl
theorem laws_FnChains_l29.ls : loopsOf (bodyAt 29 f3) = [] := by kernel_rfl
theorem laws_FnChains_l29.lok {E : Env} (hpin : laws_FnChains.E29.pin = E.pin) (hfind : find 29 E.loops = some laws_FnChains_l29.ent) : LoopOK Pr E (bodyAt 29 f3) :=
 loop_of (E1 := laws_FnChains.E29) (EnvOK.of dok laws_FnChains.fok) mixed hpin (by rw [laws_FnChains_l29.fr]; exact hfind) laws_FnChains_l29.ls (by intro l hl; simp at hl) (fun v => (laws_FnChains_l29.it K0 v).symm)
theorem laws_FnChains.ls : loopsOf (bodyOf f3) = [bodyAt 15 f3, bodyAt 29 f3] := by kernel_rfl
theorem laws_FnChains.ok : EntryOK Pr 3 laws_FnChains.ent :=
 entry_ok (E := laws_FnChains.E) (EnvOK.of dok laws_FnChains.fok) mixed (fn := f3) (by kernel_rfl) (by kernel_rfl) (by decide) laws_FnChains.ls (by
  intro l hl
  simp only [List.mem_cons, List.mem_nil_iff, or_false] at hl
  rcases hl with rfl | rfl
  · exact laws_FnChains_l15.lok rfl rfl
  · exact laws_FnChains_l29.lok rfl rfl) laws_FnChains.eq
end Go.Ab.FnChains