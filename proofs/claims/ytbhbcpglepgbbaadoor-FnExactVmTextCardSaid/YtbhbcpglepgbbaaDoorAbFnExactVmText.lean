/- The functions that the law FnExactVmText reaches, over plain values, and that each does what its code does: part 1 of 1. Without conditions. -/
import Derived.Test.YtbhbcpglepgbbaaDoorProg
import Derived.Test.YtbhbcpglepgbbaaDoorAbD
import Derived.Test.YtbhbcpglepgbbaaDoorShelf
namespace Go.Ab.FnExactVmText
open Go.RowKit
set_option linter.unusedVariables false
set_option maxRecDepth 100000
noncomputable def tds : List (Option TD) := [
  none,
  some ⟨.other, 1, .opq, 8, false⟩,
  some ⟨.int .i64, 1, .int .i64, 8, false⟩,
  some ⟨.int .i64, 1, .int .i64, 8, false⟩,
  some ⟨.bool, 1, .bool, 1, false⟩,
  some ⟨.int .u8, 1, .int .u8, 1, false⟩,
  some ⟨.int .u8, 1, .int .u8, 1, false⟩,
  some ⟨.struct [(0, 2), (1, 3), (2, 4), (3, 6)], 4, .pair (.int .i64) (.pair (.int .i64) (.pair (.bool) (.int .u8))), 24, true⟩,
  some ⟨.struct [(0, 2), (1, 3), (2, 4), (3, 6)], 4, .pair (.int .i64) (.pair (.int .i64) (.pair (.bool) (.int .u8))), 24, true⟩,
  some ⟨.str, 1, .str, 16, false⟩,
  some ⟨.str, 1, .str, 16, false⟩,
  some ⟨.str, 1, .str, 16, false⟩,
  some ⟨.int .u64, 1, .int .u64, 8, false⟩,
  none,
  none,
  some ⟨.ptr 109, 1, .opq, 8, false⟩,
  some ⟨.ptr 112, 1, .opq, 8, false⟩,
  some ⟨.ptr 120, 1, .opq, 8, false⟩,
  some ⟨.struct [(0, 17)], 1, .opq, 8, true⟩,
  some ⟨.struct [(0, 17)], 1, .opq, 8, true⟩,
  none,
  some ⟨.int .i32, 1, .int .i32, 4, false⟩,
  some ⟨.other, 1, .opq, 8, false⟩,
  some ⟨.other, 1, .opq, 8, false⟩,
  some ⟨.struct [(0, 9), (1, 2), (2, 2), (3, 2), (4, 2), (5, 2), (6, 9), (7, 2)], 8, .pair (.str) (.pair (.int .i64) (.pair (.int .i64) (.pair (.int .i64) (.pair (.int .i64) (.pair (.int .i64) (.pair (.str) (.int .i64))))))), 80, true⟩,
  some ⟨.struct [(0, 9), (1, 2), (2, 2), (3, 2), (4, 2), (5, 2), (6, 9), (7, 2)], 8, .pair (.str) (.pair (.int .i64) (.pair (.int .i64) (.pair (.int .i64) (.pair (.int .i64) (.pair (.int .i64) (.pair (.str) (.int .i64))))))), 80, true⟩,
  some ⟨.other, 1, .opq, 8, false⟩,
  some ⟨.other, 1, .opq, 8, false⟩,
  some ⟨.struct [(0, 9), (1, 2), (2, 2), (3, 2), (4, 2), (5, 2), (6, 9), (7, 2)], 8, .pair (.str) (.pair (.int .i64) (.pair (.int .i64) (.pair (.int .i64) (.pair (.int .i64) (.pair (.int .i64) (.pair (.str) (.int .i64))))))), 80, true⟩,
  some ⟨.other, 1, .opq, 8, false⟩,
  some ⟨.other, 1, .opq, 8, false⟩,
  some ⟨.other, 1, .opq, 8, false⟩,
  some ⟨.other, 1, .opq, 8, false⟩,
  some ⟨.slice 5, 1, .slice (.int .u8), 24, false⟩,
  some ⟨.other, 1, .opq, 8, false⟩,
  some ⟨.other, 1, .opq, 8, false⟩,
  some ⟨.other, 1, .opq, 8, false⟩,
  some ⟨.ptr 39, 1, .opq, 8, false⟩,
  some ⟨.struct [(0, 37), (1, 33)], 2, .pair (.opq) (.slice (.int .u8)), 32, true⟩,
  some ⟨.struct [(0, 37), (1, 33)], 2, .pair (.opq) (.slice (.int .u8)), 32, true⟩,
  none,
  none,
  none,
  some ⟨.other, 1, .opq, 8, false⟩,
  some ⟨.other, 1, .opq, 8, false⟩,
  some ⟨.other, 1, .opq, 8, false⟩,
  some ⟨.other, 1, .opq, 8, false⟩,
  some ⟨.other, 1, .opq, 8, false⟩,
  some ⟨.slice 9, 1, .slice (.str), 24, false⟩,
  some ⟨.other, 1, .opq, 8, false⟩,
  some ⟨.other, 1, .opq, 8, false⟩,
  some ⟨.other, 1, .opq, 8, false⟩,
  some ⟨.other, 1, .opq, 8, false⟩,
  some ⟨.ptr 2, 1, .opq, 8, false⟩,
  some ⟨.slice 53, 1, .slice (.opq), 24, false⟩,
  none,
  some ⟨.other, 1, .opq, 8, false⟩,
  none,
  some ⟨.other, 1, .opq, 8, false⟩,
  some ⟨.ptr 71, 1, .opq, 8, false⟩,
  some ⟨.other, 1, .opq, 8, false⟩,
  some ⟨.other, 1, .opq, 8, false⟩,
  some ⟨.other, 1, .opq, 8, false⟩,
  some ⟨.other, 1, .opq, 8, false⟩,
  some ⟨.ptr 5, 1, .opq, 8, false⟩,
  some ⟨.other, 1, .opq, 8, false⟩,
  some ⟨.other, 1, .opq, 8, false⟩,
  some ⟨.other, 1, .opq, 8, false⟩,
  some ⟨.other, 1, .opq, 8, false⟩,
  some ⟨.int .u64, 1, .int .u64, 8, false⟩,
  some ⟨.struct [(0, 33), (1, 3), (2, 69), (3, 2)], 4, .pair (.slice (.int .u8)) (.pair (.int .i64) (.pair (.int .u64) (.int .i64))), 48, true⟩,
  some ⟨.struct [(0, 33), (1, 3), (2, 69), (3, 2)], 4, .pair (.slice (.int .u8)) (.pair (.int .i64) (.pair (.int .u64) (.int .i64))), 48, true⟩,
  some ⟨.other, 1, .opq, 8, false⟩,
  some ⟨.other, 1, .opq, 8, false⟩,
  some ⟨.slice 2, 1, .slice (.int .i64), 24, false⟩,
  some ⟨.other, 1, .opq, 8, false⟩,
  some ⟨.other, 1, .opq, 8, false⟩,
  some ⟨.other, 1, .opq, 8, false⟩,
  some ⟨.other, 1, .opq, 8, false⟩,
  some ⟨.other, 1, .opq, 8, false⟩,
  some ⟨.int .u64, 1, .int .u64, 8, false⟩,
  some ⟨.other, 1, .opq, 8, false⟩,
  some ⟨.arr 24 5, 24, .pair (.int .u8) (.pair (.int .u8) (.pair (.int .u8) (.pair (.int .u8) (.pair (.int .u8) (.pair (.int .u8) (.pair (.int .u8) (.pair (.int .u8) (.pair (.int .u8) (.pair (.int .u8) (.pair (.int .u8) (.pair (.int .u8) (.pair (.int .u8) (.pair (.int .u8) (.pair (.int .u8) (.pair (.int .u8) (.pair (.int .u8) (.pair (.int .u8) (.pair (.int .u8) (.pair (.int .u8) (.pair (.int .u8) (.pair (.int .u8) (.pair (.int .u8) (.int .u8))))))))))))))))))))))), 24, true⟩,
  some ⟨.other, 1, .opq, 8, false⟩,
  some ⟨.other, 1, .opq, 8, false⟩,
  none,
  some ⟨.other, 1, .opq, 8, false⟩,
  some ⟨.other, 1, .opq, 8, false⟩,
  none,
  some ⟨.other, 1, .opq, 8, false⟩,
  some ⟨.other, 1, .opq, 8, false⟩,
  some ⟨.other, 1, .opq, 8, false⟩,
  some ⟨.other, 1, .opq, 8, false⟩,
  some ⟨.other, 1, .opq, 8, false⟩,
  some ⟨.arr 20 69, 20, .pair (.int .u64) (.pair (.int .u64) (.pair (.int .u64) (.pair (.int .u64) (.pair (.int .u64) (.pair (.int .u64) (.pair (.int .u64) (.pair (.int .u64) (.pair (.int .u64) (.pair (.int .u64) (.pair (.int .u64) (.pair (.int .u64) (.pair (.int .u64) (.pair (.int .u64) (.pair (.int .u64) (.pair (.int .u64) (.pair (.int .u64) (.pair (.int .u64) (.pair (.int .u64) (.int .u64))))))))))))))))))), 160, true⟩,
  some ⟨.int .u32, 1, .int .u32, 4, false⟩,
  some ⟨.arr 65 5, 65, .pair (.int .u8) (.pair (.int .u8) (.pair (.int .u8) (.pair (.int .u8) (.pair (.int .u8) (.pair (.int .u8) (.pair (.int .u8) (.pair (.int .u8) (.pair (.int .u8) (.pair (.int .u8) (.pair (.int .u8) (.pair (.int .u8) (.pair (.int .u8) (.pair (.int .u8) (.pair (.int .u8) (.pair (.int .u8) (.pair (.int .u8) (.pair (.int .u8) (.pair (.int .u8) (.pair (.int .u8) (.pair (.int .u8) (.pair (.int .u8) (.pair (.int .u8) (.pair (.int .u8) (.pair (.int .u8) (.pair (.int .u8) (.pair (.int .u8) (.pair (.int .u8) (.pair (.int .u8) (.pair (.int .u8) (.pair (.int .u8) (.pair (.int .u8) (.pair (.int .u8) (.pair (.int .u8) (.pair (.int .u8) (.pair (.int .u8) (.pair (.int .u8) (.pair (.int .u8) (.pair (.int .u8) (.pair (.int .u8) (.pair (.int .u8) (.pair (.int .u8) (.pair (.int .u8) (.pair (.int .u8) (.pair (.int .u8) (.pair (.int .u8) (.pair (.int .u8) (.pair (.int .u8) (.pair (.int .u8) (.pair (.int .u8) (.pair (.int .u8) (.pair (.int .u8) (.pair (.int .u8) (.pair (.int .u8) (.pair (.int .u8) (.pair (.int .u8) (.pair (.int .u8) (.pair (.int .u8) (.pair (.int .u8) (.pair (.int .u8) (.pair (.int .u8) (.pair (.int .u8) (.pair (.int .u8) (.pair (.int .u8) (.int .u8)))))))))))))))))))))))))))))))))))))))))))))))))))))))))))))))), 65, true⟩,
  some ⟨.other, 1, .opq, 8, false⟩,
  some ⟨.other, 1, .opq, 8, false⟩,
  none,
  some ⟨.other, 1, .opq, 8, false⟩,
  some ⟨.other, 1, .opq, 8, false⟩,
  some ⟨.arr 256 5, 256, .pair (.int .u8) (.pair (.int .u8) (.pair (.int .u8) (.pair (.int .u8) (.pair (.int .u8) (.pair (.int .u8) (.pair (.int .u8) (.pair (.int .u8) (.pair (.int .u8) (.pair (.int .u8) (.pair (.int .u8) (.pair (.int .u8) (.pair (.int .u8) (.pair (.int .u8) (.pair (.int .u8) (.pair (.int .u8) (.pair (.int .u8) (.pair (.int .u8) (.pair (.int .u8) (.pair (.int .u8) (.pair (.int .u8) (.pair (.int .u8) (.pair (.int .u8) (.pair (.int .u8) (.pair (.int .u8) (.pair (.int .u8) (.pair (.int .u8) (.pair (.int .u8) (.pair (.int .u8) (.pair (.int .u8) (.pair (.int .u8) (.pair (.int .u8) (.pair (.int .u8) (.pair (.int .u8) (.pair (.int .u8) (.pair (.int .u8) (.pair (.int .u8) (.pair (.int .u8) (.pair (.int .u8) (.pair (.int .u8) (.pair (.int .u8) (.pair (.int .u8) (.pair (.int .u8) (.pair (.int .u8) (.pair (.int .u8) (.pair (.int .u8) (.pair (.int .u8) (.pair (.int .u8) (.pair (.int .u8) (.pair (.int .u8) (.pair (.int .u8) (.pair (.int .u8) (.pair (.int .u8) (.pair (.int .u8) (.pair (.int .u8) (.pair (.int .u8) (.pair (.int .u8) (.pair (.int .u8) (.pair (.int .u8) (.pair (.int .u8) (.pair (.int .u8) (.pair (.int .u8) (.pair (.int .u8) (.pair (.int .u8) (.pair (.int .u8) (.pair (.int .u8) (.pair (.int .u8) (.pair (.int .u8) (.pair (.int .u8) (.pair (.int .u8) (.pair (.int .u8) (.pair (.int .u8) (.pair (.int .u8) (.pair (.int .u8) (.pair (.int .u8) (.pair (.int .u8) (.pair (.int .u8) (.pair (.int .u8) (.pair (.int .u8) (.pair (.int .u8) (.pair (.int .u8) (.pair (.int .u8) (.pair (.int .u8) (.pair (.int .u8) (.pair (.int .u8) (.pair (.int .u8) (.pair (.int .u8) (.pair (.int .u8) (.pair (.int .u8) (.pair (.int .u8) (.pair (.int .u8) (.pair (.int .u8) (.pair (.int .u8) (.pair (.int .u8) (.pair (.int .u8) (.pair (.int .u8) (.pair (.int .u8) (.pair (.int .u8) (.pair (.int .u8) (.pair (.int .u8) (.pair (.int .u8) (.pair (.int .u8) (.pair (.int .u8) (.pair (.int .u8) (.pair (.int .u8) (.pair (.int .u8) (.pair (.int .u8) (.pair (.int .u8) (.pair (.int .u8) (.pair (.int .u8) (.pair (.int .u8) (.pair (.int .u8) (.pair (.int .u8) (.pair (.int .u8) (.pair (.int .u8) (.pair (.int .u8) (.pair (.int .u8) (.pair (.int .u8) (.pair (.int .u8) (.pair (.int .u8) (.pair (.int .u8) (.pair (.int .u8) (.pair (.int .u8) (.pair (.int .u8) (.pair (.int .u8) (.pair (.int .u8) (.pair (.int .u8) (.pair (.int .u8) (.pair (.int .u8) (.pair (.int .u8) (.pair (.int .u8) (.pair (.int .u8) (.pair (.int .u8) (.pair (.int .u8) (.pair (.int .u8) (.pair (.int .u8) (.pair (.int .u8) (.pair (.int .u8) (.pair (.int .u8) (.pair (.int .u8) (.pair (.int .u8) (.pair (.int .u8) (.pair (.int .u8) (.pair (.int .u8) (.pair (.int .u8) (.pair (.int .u8) (.pair (.int .u8) (.pair (.int .u8) (.pair (.int .u8) (.pair (.int .u8) (.pair (.int .u8) (.pair (.int .u8) (.pair (.int .u8) (.pair (.int .u8) (.pair (.int .u8) (.pair (.int .u8) (.pair (.int .u8) (.pair (.int .u8) (.pair (.int .u8) (.pair (.int .u8) (.pair (.int .u8) (.pair (.int .u8) (.pair (.int .u8) (.pair (.int .u8) (.pair (.int .u8) (.pair (.int .u8) (.pair (.int .u8) (.pair (.int .u8) (.pair (.int .u8) (.pair (.int .u8) (.pair (.int .u8) (.pair (.int .u8) (.pair (.int .u8) (.pair (.int .u8) (.pair (.int .u8) (.pair (.int .u8) (.pair (.int .u8) (.pair (.int .u8) (.pair (.int .u8) (.pair (.int .u8) (.pair (.int .u8) (.pair (.int .u8) (.pair (.int .u8) (.pair (.int .u8) (.pair (.int .u8) (.pair (.int .u8) (.pair (.int .u8) (.pair (.int .u8) (.pair (.int .u8) (.pair (.int .u8) (.pair (.int .u8) (.pair (.int .u8) (.pair (.int .u8) (.pair (.int .u8) (.pair (.int .u8) (.pair (.int .u8) (.pair (.int .u8) (.pair (.int .u8) (.pair (.int .u8) (.pair (.int .u8) (.pair (.int .u8) (.pair (.int .u8) (.pair (.int .u8) (.pair (.int .u8) (.pair (.int .u8) (.pair (.int .u8) (.pair (.int .u8) (.pair (.int .u8) (.pair (.int .u8) (.pair (.int .u8) (.pair (.int .u8) (.pair (.int .u8) (.pair (.int .u8) (.pair (.int .u8) (.pair (.int .u8) (.pair (.int .u8) (.pair (.int .u8) (.pair (.int .u8) (.pair (.int .u8) (.pair (.int .u8) (.pair (.int .u8) (.pair (.int .u8) (.pair (.int .u8) (.pair (.int .u8) (.pair (.int .u8) (.pair (.int .u8) (.pair (.int .u8) (.pair (.int .u8) (.pair (.int .u8) (.pair (.int .u8) (.pair (.int .u8) (.pair (.int .u8) (.pair (.int .u8) (.pair (.int .u8) (.pair (.int .u8) (.pair (.int .u8) (.pair (.int .u8) (.pair (.int .u8) (.pair (.int .u8) (.pair (.int .u8) (.pair (.int .u8) (.pair (.int .u8) (.pair (.int .u8) (.pair (.int .u8) (.pair (.int .u8) (.pair (.int .u8) (.pair (.int .u8) (.pair (.int .u8) (.pair (.int .u8) (.pair (.int .u8) (.pair (.int .u8) (.pair (.int .u8) (.pair (.int .u8) (.pair (.int .u8) (.pair (.int .u8) (.int .u8))))))))))))))))))))))))))))))))))))))))))))))))))))))))))))))))))))))))))))))))))))))))))))))))))))))))))))))))))))))))))))))))))))))))))))))))))))))))))))))))))))))))))))))))))))))))))))))))))))))))))))))))))))))))))))))))))))))))))))))))))))))))))))))), 256, true⟩,
  some ⟨.struct [(0, 5), (1, 5)], 2, .pair (.int .u8) (.int .u8), 2, true⟩,
  some ⟨.struct [(0, 5), (1, 5)], 2, .pair (.int .u8) (.int .u8), 2, true⟩,
  some ⟨.arr 16 104, 32, .pair (.int .u8) (.pair (.int .u8) (.pair (.int .u8) (.pair (.int .u8) (.pair (.int .u8) (.pair (.int .u8) (.pair (.int .u8) (.pair (.int .u8) (.pair (.int .u8) (.pair (.int .u8) (.pair (.int .u8) (.pair (.int .u8) (.pair (.int .u8) (.pair (.int .u8) (.pair (.int .u8) (.pair (.int .u8) (.pair (.int .u8) (.pair (.int .u8) (.pair (.int .u8) (.pair (.int .u8) (.pair (.int .u8) (.pair (.int .u8) (.pair (.int .u8) (.pair (.int .u8) (.pair (.int .u8) (.pair (.int .u8) (.pair (.int .u8) (.pair (.int .u8) (.pair (.int .u8) (.pair (.int .u8) (.pair (.int .u8) (.int .u8))))))))))))))))))))))))))))))), 32, true⟩,
  some ⟨.arr 32 5, 32, .pair (.int .u8) (.pair (.int .u8) (.pair (.int .u8) (.pair (.int .u8) (.pair (.int .u8) (.pair (.int .u8) (.pair (.int .u8) (.pair (.int .u8) (.pair (.int .u8) (.pair (.int .u8) (.pair (.int .u8) (.pair (.int .u8) (.pair (.int .u8) (.pair (.int .u8) (.pair (.int .u8) (.pair (.int .u8) (.pair (.int .u8) (.pair (.int .u8) (.pair (.int .u8) (.pair (.int .u8) (.pair (.int .u8) (.pair (.int .u8) (.pair (.int .u8) (.pair (.int .u8) (.pair (.int .u8) (.pair (.int .u8) (.pair (.int .u8) (.pair (.int .u8) (.pair (.int .u8) (.pair (.int .u8) (.pair (.int .u8) (.int .u8))))))))))))))))))))))))))))))), 32, true⟩,
  some ⟨.arr 64 5, 64, .pair (.int .u8) (.pair (.int .u8) (.pair (.int .u8) (.pair (.int .u8) (.pair (.int .u8) (.pair (.int .u8) (.pair (.int .u8) (.pair (.int .u8) (.pair (.int .u8) (.pair (.int .u8) (.pair (.int .u8) (.pair (.int .u8) (.pair (.int .u8) (.pair (.int .u8) (.pair (.int .u8) (.pair (.int .u8) (.pair (.int .u8) (.pair (.int .u8) (.pair (.int .u8) (.pair (.int .u8) (.pair (.int .u8) (.pair (.int .u8) (.pair (.int .u8) (.pair (.int .u8) (.pair (.int .u8) (.pair (.int .u8) (.pair (.int .u8) (.pair (.int .u8) (.pair (.int .u8) (.pair (.int .u8) (.pair (.int .u8) (.pair (.int .u8) (.pair (.int .u8) (.pair (.int .u8) (.pair (.int .u8) (.pair (.int .u8) (.pair (.int .u8) (.pair (.int .u8) (.pair (.int .u8) (.pair (.int .u8) (.pair (.int .u8) (.pair (.int .u8) (.pair (.int .u8) (.pair (.int .u8) (.pair (.int .u8) (.pair (.int .u8) (.pair (.int .u8) (.pair (.int .u8) (.pair (.int .u8) (.pair (.int .u8) (.pair (.int .u8) (.pair (.int .u8) (.pair (.int .u8) (.pair (.int .u8) (.pair (.int .u8) (.pair (.int .u8) (.pair (.int .u8) (.pair (.int .u8) (.pair (.int .u8) (.pair (.int .u8) (.pair (.int .u8) (.pair (.int .u8) (.pair (.int .u8) (.int .u8))))))))))))))))))))))))))))))))))))))))))))))))))))))))))))))), 64, true⟩,
  some ⟨.struct [(0, 17), (1, 17), (2, 17), (3, 9)], 4, .pair (.opq) (.pair (.opq) (.pair (.opq) (.str))), 40, true⟩,
  some ⟨.struct [(0, 17), (1, 17), (2, 17), (3, 9)], 4, .pair (.opq) (.pair (.opq) (.pair (.opq) (.str))), 40, true⟩,
  none,
  none,
  none,
  some ⟨.other, 1, .opq, 8, false⟩,
  some ⟨.int .u8, 1, .int .u8, 1, false⟩,
  some ⟨.int .u8, 1, .int .u8, 1, false⟩,
  some ⟨.other, 1, .opq, 8, false⟩,
  some ⟨.int .i32, 1, .int .i32, 4, false⟩,
  some ⟨.int .i32, 1, .int .i32, 4, false⟩,
  some ⟨.struct [(0, 12), (1, 12), (2, 95), (3, 114), (4, 5), (5, 5), (6, 115), (7, 116), (8, 64), (9, 117), (10, 118)], 11, .pair (.int .u64) (.pair (.int .u64) (.pair (.int .u32) (.pair (.int .u8) (.pair (.int .u8) (.pair (.int .u8) (.pair (.int .u8) (.pair (.opq) (.pair (.opq) (.pair (.int .i32) (.int .i32)))))))))), 48, true⟩,
  some ⟨.struct [(0, 12), (1, 12), (2, 95), (3, 114), (4, 5), (5, 5), (6, 115), (7, 116), (8, 64), (9, 117), (10, 118)], 11, .pair (.int .u64) (.pair (.int .u64) (.pair (.int .u32) (.pair (.int .u8) (.pair (.int .u8) (.pair (.int .u8) (.pair (.int .u8) (.pair (.opq) (.pair (.opq) (.pair (.int .i32) (.int .i32)))))))))), 48, true⟩]
noncomputable def D : TypeId → Option TD := nthD tds
noncomputable abbrev Pr : Program := Go.Proofs.Tryd.prog
theorem tdsOk : okTds Pr (nthD tds) 0 tds = true := by kernel_rfl
theorem dok : Dok Pr D := dok_of tdsOk
theorem mixed : Pr.follows .mixedOrders = true := by kernel_rfl
/-- the decimal text of a number -/
noncomputable def itoaB (n : Int) : ByteArray := ⟨(Go.Lib.itoa n).toArray⟩
/-- texts put together -/
noncomputable def joinB (l : List ByteArray) (s : ByteArray) : ByteArray := ⟨(Go.Lib.join (l.map (·.data.toList)) s.data.toList).toArray⟩
theorem joinB_size (l : List ByteArray) (s : ByteArray) : (joinB l s).size = (Go.Lib.join (l.map (·.data.toList)) s.data.toList).length := by
  simp [joinB, ByteArray.size]
theorem Fr.of_below {O : Cset} {w w' : World} (h : Below w.heap.size w w') : Fr O w w' :=
  ⟨h.os, h.tape, h.output, h.size, fun b a hb => ⟨a, by rw [h.block b (Array.getElem?_eq_some_iff.1 hb).1]; exact hb, .inl rfl⟩⟩
theorem Fr.of_grow {O : Cset} (w : World) (k : Nat) (os : Array Obj) : Fr O w (Go.Sort.grow (w.drewN k) os) :=
  ⟨rfl, rfl, rfl, by show w.heap.size ≤ (w.heap ++ os).size; simp, fun b a hb => ⟨a, by
    show (w.heap ++ os)[b]? = some a
    rw [Array.getElem?_append_left (Array.getElem?_eq_some_iff.1 hb).1]; exact hb, .inl rfl⟩⟩
theorem tab_pow10 {P : Program} {w : World} {g : Nat} (hg : P.globalNamed "internal/strconv.uint64pow10" = some g)
    (h : ∃ c t e, w.heap[g]? = some (.cells c t e) ∧ c = (([1, 10, 100, 1000, 10000, 100000, 1000000, 10000000, 100000000, 1000000000, 10000000000, 100000000000, 1000000000000, 10000000000000, 100000000000000, 1000000000000000, 10000000000000000, 100000000000000000, 1000000000000000000, 10000000000000000000] : List Int).map fun z => Value.int .u64 z).toArray) :
    Go.Lib.TabIs P w "internal/strconv.uint64pow10" .u64 Go.Lib.pow10Tab := by
  obtain ⟨c, t, e, h1, rfl⟩ := h
  unfold Go.Lib.TabIs World.var?
  rw [hg]
  simp only [Option.bind_some, h1]
  rfl
/-- a row of strings, as a contract asks for it -/
theorem strs_of {w : World} {S : Cset} (hS : ∀ b x, S b x → b < w.heap.size) {l : List ByteArray} {x : Value} (h : RepC w S (.slice .str) l [x]) :
    (l = [] ∧ ∃ A c, x = .slice A 0 c) ∨ ∃ b o c, x = .slice (some ⟨b, o, none⟩) l.length c ∧ b < w.heap.size ∧ l.length ≤ c ∧ ∀ (j : Nat) y, l[j]? = some y → w.cell? ⟨b, o + j, none⟩ = some (.string y) := by
  obtain ⟨A, cap, e, hle, h⟩ := h
  simp only [List.cons.injEq, and_true] at e
  cases l with
  | nil => exact .inl ⟨rfl, A, cap, e⟩
  | cons y0 l =>
    obtain ⟨a, rfl, hs, h⟩ := h (by simp)
    have hc : ∀ (j : Nat) y, (y0 :: l)[j]? = some y → w.cell? (at_ a.block (a.off + j)) = some (.string y) ∧ S a.block (a.off + j) := fun j y hy => by
      obtain ⟨row, h1, h2, h3⟩ := h j y hy
      change row = [.string y] at h3
      subst h3
      have := h2 0 (.string y) rfl
      simpa [Ty.sz'] using this
    refine .inr ⟨a.block, a.off, cap, ?_, hS _ _ (hc 0 y0 rfl).2, hle, fun j y hy => (hc j y hy).1⟩
    rw [e]
    congr 2
    cases a
    simp only at hs
    subst hs
    rfl

noncomputable abbrev f4 : Func := Go.Proofs.Tryd.f4
noncomputable abbrev f9 : Func := Go.Proofs.Tryd.f9
noncomputable abbrev f10 : Func := Go.Proofs.Tryd.f10
noncomputable abbrev f11 : Func := Go.Proofs.Tryd.f11
noncomputable abbrev f12 : Func := Go.Proofs.Tryd.f12
noncomputable abbrev f17 : Func := Go.Proofs.Tryd.f17
noncomputable abbrev f19 : Func := Go.Proofs.Tryd.f19
noncomputable abbrev f20 : Func := Go.Proofs.Tryd.f20
noncomputable abbrev f22 : Func := Go.Proofs.Tryd.f22
noncomputable abbrev f23 : Func := Go.Proofs.Tryd.f23
noncomputable abbrev f33 : Func := Go.Proofs.Tryd.f33
noncomputable abbrev f34 : Func := Go.Proofs.Tryd.f34
noncomputable abbrev f35 : Func := Go.Proofs.Tryd.f35
noncomputable abbrev f36 : Func := Go.Proofs.Tryd.f36
noncomputable abbrev f37 : Func := Go.Proofs.Tryd.f37
/-! ### loop.example/g00038/laws.szVm -/
noncomputable def laws_szVm.E : Env := ⟨D, [], [], []⟩
noncomputable def laws_szVm (a0 : ByteArray) (a1 : Int) (a2 : Int) (a3 : Int) (a4 : Int) (a5 : Int) (a6 : ByteArray) (a7 : Int) (a8 : Int) : Option (Int × Unit) :=
 let x1 : Int := (wrap64 (a8 - (a0.size : Int)))
 bif decide (x1 < 0) then
  some (-1, ())
 else
  let x2 : Int := (wrap64 (x1 - (a6.size : Int)))
  bif decide (x2 < 0) then
   some (-1, ())
  else
   some (x2, ())
noncomputable def laws_szVm.ent : Entry := ⟨[false, false], [.agg [.val .bor (.str), .val .bor (.int .i64), .val .bor (.int .i64), .val .bor (.int .i64), .val .bor (.int .i64), .val .bor (.int .i64), .val .bor (.str), .val .bor (.int .i64)], .cell (.val .bor (.int .i64))], [.cell (.val .bor (.int .i64))], [], fun v => laws_szVm v.1 v.2.1 v.2.2.1 v.2.2.2.1 v.2.2.2.2.1 v.2.2.2.2.2.1 v.2.2.2.2.2.2.1 v.2.2.2.2.2.2.2.1 v.2.2.2.2.2.2.2.2.1⟩
theorem laws_szVm.eq : ∀ v, evFn laws_szVm.E f9 laws_szVm.ent.ptrs laws_szVm.ent.ins laws_szVm.ent.rets laws_szVm.ent.outs v = laws_szVm.ent.f v := by intro v; kernel_rfl
theorem laws_szVm.fok : ∀ q ∈ ([] : List (Nat × Entry)), EntryOK Pr q.1 q.2 := by intro q hq; simp at hq
theorem laws_szVm.ls : loopsOf (bodyOf f9) = [] := by kernel_rfl
theorem laws_szVm.ok : EntryOK Pr 9 laws_szVm.ent :=
 entry_ok (E := laws_szVm.E) (EnvOK.of dok laws_szVm.fok) mixed (fn := f9) (by kernel_rfl) (by kernel_rfl) (by decide) laws_szVm.ls (by intro l hl; simp at hl) laws_szVm.eq
/-! ### loop.example/g00038/laws.toVm -/
noncomputable def laws_toVm.E : Env := ⟨D, [], [], []⟩
noncomputable def laws_toVm (a0 : ByteArray) (a1 : Int) (a2 : Int) (a3 : Int) (a4 : Int) (a5 : Int) (a6 : ByteArray) (a7 : Int) : Option (ByteArray × Int × Int × Int × Int × Int × ByteArray × Int × Unit) :=
 some (a0, a1, a2, a3, a4, a5, a6, a7, ())
noncomputable def laws_toVm.ent : Entry := ⟨[false], [.agg [.val .bor (.str), .val .bor (.int .i64), .val .bor (.int .i64), .val .bor (.int .i64), .val .bor (.int .i64), .val .bor (.int .i64), .val .bor (.str), .val .bor (.int .i64)]], [.agg [.val .bor (.str), .val .bor (.int .i64), .val .bor (.int .i64), .val .bor (.int .i64), .val .bor (.int .i64), .val .bor (.int .i64), .val .bor (.str), .val .bor (.int .i64)]], [], fun v => laws_toVm v.1 v.2.1 v.2.2.1 v.2.2.2.1 v.2.2.2.2.1 v.2.2.2.2.2.1 v.2.2.2.2.2.2.1 v.2.2.2.2.2.2.2.1⟩
theorem laws_toVm.eq : ∀ v, evFn laws_toVm.E f11 laws_toVm.ent.ptrs laws_toVm.ent.ins laws_toVm.ent.rets laws_toVm.ent.outs v = laws_toVm.ent.f v := by intro v; kernel_rfl
theorem laws_toVm.fok : ∀ q ∈ ([] : List (Nat × Entry)), EntryOK Pr q.1 q.2 := by intro q hq; simp at hq
theorem laws_toVm.ls : loopsOf (bodyOf f11) = [] := by kernel_rfl
theorem laws_toVm.ok : EntryOK Pr 11 laws_toVm.ent :=
 entry_ok (E := laws_toVm.E) (EnvOK.of dok laws_toVm.fok) mixed (fn := f11) (by kernel_rfl) (by kernel_rfl) (by decide) laws_toVm.ls (by intro l hl; simp at hl) laws_toVm.eq
/-! ### loop.example/g00038/spec.l13Name -/
noncomputable def spec_l13Name.E4 : Env := ⟨D, [], [], []⟩
noncomputable def spec_l13Name_l4_step (rec : ByteArray → Int → Option ((Bool × Unit) ⊕ (Unit))) (y0 : ByteArray) (y1 : Int) : Option ((Bool × Unit) ⊕ (Unit)) :=
 let b3 : Bool := decide (y1 < (y0.size : Int))
 bif b3 then
  bif decide (0 ≤ y1) && decide (y1 < (y0.size : Int)) then
   let b4 : Bool := (decide (bt y0 y1 ≥ 97) && decide (bt y0 y1 ≤ 122))
   let b5 : Bool := (decide (bt y0 y1 ≥ 48) && decide (bt y0 y1 ≤ 57))
   let b6 : Bool := ((b4 || b5) || (bt y0 y1 == 45))
   bif !b6 then
    some (Sum.inl (false, ()))
   else
    rec y0 (wrap64 (y1 + 1))
  else none
 else
  some (Sum.inr ())
noncomputable def spec_l13Name_l4 : Nat → ByteArray → Int → Option ((Bool × Unit) ⊕ (Unit))
 | 0 => fun _ _ => none
 | n + 1 => spec_l13Name_l4_step (spec_l13Name_l4 n)
noncomputable def spec_l13Name_l4.ent : LEntry := ⟨(.cell (.val .bor (.str)) :: (sk 2 (.cell (.val .bor (.int .i64)) :: (sk 37 [])))), rk 41 [], [], [], [⟨none, sk 2 (.cell (.val .bor (.bool)) :: (sk 38 [])), rk 41 [], [], []⟩, ⟨some 0, sk 41 [], rk 41 [], [], []⟩], fun v => spec_l13Name_l4 K0 v.1 v.2.1⟩
theorem spec_l13Name_l4.eq : ∀ rec v, evStep spec_l13Name.E4 (bodyAt 4 f35) spec_l13Name_l4.ent.ins spec_l13Name_l4.ent.rts spec_l13Name_l4.ent.hm spec_l13Name_l4.ent.nl spec_l13Name_l4.ent.xs rec v = spec_l13Name_l4_step (fun c0 c1 => rec (c0, c1, ())) v.1 v.2.1 := by intro rec v; kernel_rfl
noncomputable def spec_l13Name.E : Env := ⟨D, [], [], [(4, spec_l13Name_l4.ent)]⟩
noncomputable def spec_l13Name (a0 : ByteArray) : Option (Bool × Unit) :=
 let b1 : Bool := decide ((a0.size : Int) < 1)
 let b2 : Bool := decide ((a0.size : Int) > 20)
 bif (b1 || b2) then
  some (false, ())
 else
  (spec_l13Name_l4 K0 a0 0).bind fun o7 =>
  match o7 with
  | Sum.inl p8 =>
   some (p8.1, ())
  | Sum.inr p9 =>
   some (true, ())
noncomputable def spec_l13Name.ent : Entry := ⟨[false], [.cell (.val .bor (.str))], [.cell (.val .bor (.bool))], [], fun v => spec_l13Name v.1⟩
theorem spec_l13Name.eq : ∀ v, evFn spec_l13Name.E f35 spec_l13Name.ent.ptrs spec_l13Name.ent.ins spec_l13Name.ent.rets spec_l13Name.ent.outs v = spec_l13Name.ent.f v := by intro v; kernel_rfl
theorem spec_l13Name.fok : ∀ q ∈ ([] : List (Nat × Entry)), EntryOK Pr q.1 q.2 := by intro q hq; simp at hq
theorem spec_l13Name_l4.it : ∀ n v, iter (evStep spec_l13Name.E4 (bodyAt 4 f35) spec_l13Name_l4.ent.ins spec_l13Name_l4.ent.rts spec_l13Name_l4.ent.hm spec_l13Name_l4.ent.nl spec_l13Name_l4.ent.xs) n v = spec_l13Name_l4 n v.1 v.2.1 := by
 intro n
 induction n with
 | zero => intro v; rfl
 | succ n ih =>
  intro v
  show (evStep spec_l13Name.E4 (bodyAt 4 f35) spec_l13Name_l4.ent.ins spec_l13Name_l4.ent.rts spec_l13Name_l4.ent.hm spec_l13Name_l4.ent.nl spec_l13Name_l4.ent.xs) (iter (evStep spec_l13Name.E4 (bodyAt 4 f35) spec_l13Name_l4.ent.ins spec_l13Name_l4.ent.rts spec_l13Name_l4.ent.hm spec_l13Name_l4.ent.nl spec_l13Name_l4.ent.xs) n) v = _
  rw [spec_l13Name_l4.eq, show (fun c0 c1 => iter (evStep spec_l13Name.E4 (bodyAt 4 f35) spec_l13Name_l4.ent.ins spec_l13Name_l4.ent.rts spec_l13Name_l4.ent.hm spec_l13Name_l4.ent.nl spec_l13Name_l4.ent.xs) n (c0, c1, ())) = spec_l13Name_l4 n from by funext c0 c1; exact ih _]
  rfl
theorem spec_l13Name_l4.fr : firstRegion (bodyAt 4 f35) = 4 := by kernel_rfl
theorem spec_l13Name_l4.ls : loopsOf (bodyAt 4 f35) = [] := by kernel_rfl
theorem spec_l13Name_l4.lok {E : Env} (hpin : spec_l13Name.E4.pin = E.pin) (hfind : find 4 E.loops = some spec_l13Name_l4.ent) : LoopOK Pr E (bodyAt 4 f35) :=
 loop_of (E1 := spec_l13Name.E4) (EnvOK.of dok spec_l13Name.fok) mixed hpin (by rw [spec_l13Name_l4.fr]; exact hfind) spec_l13Name_l4.ls (by intro l hl; simp at hl) (fun v => (spec_l13Name_l4.it K0 v).symm)
theorem spec_l13Name.ls : loopsOf (bodyOf f35) = [bodyAt 4 f35] := by kernel_rfl
theorem spec_l13Name.ok : EntryOK Pr 35 spec_l13Name.ent :=
 entry_ok (E := spec_l13Name.E) (EnvOK.of dok spec_l13Name.fok) mixed (fn := f35) (by kernel_rfl) (by kernel_rfl) (by decide) spec_l13Name.ls (by intro l hl; simp only [List.mem_singleton] at hl; subst hl; exact spec_l13Name_l4.lok rfl rfl) spec_l13Name.eq
/-! ### loop.example/g00038/spec.l22IsVm -/
noncomputable def spec_l22IsVm.E : Env := ⟨D, [], [(35, spec_l13Name.ent)], []⟩
noncomputable def spec_l22IsVm (a0 : ByteArray) (a1 : Int) (a2 : Int) (a3 : Int) (a4 : Int) (a5 : Int) (a6 : ByteArray) (a7 : Int) (a8 : Int) : Option (Bool × Unit) :=
 (spec_l13Name a0).bind fun r1 =>
 let b2 : Bool := (r1.1 && decide (a1 ≥ 0))
 let b3 : Bool := ((b2 && decide (a1 < a8)) && decide (a2 ≥ 1))
 let b4 : Bool := ((b3 && decide (a2 ≤ 64)) && decide (a3 ≥ 1))
 let b5 : Bool := (b4 && decide (a3 ≤ 1000))
 let b6 : Bool := ((b5 && decide (a4 ≥ 0)) && decide (a4 ≤ 20))
 let b7 : Bool := ((b6 && decide (a5 ≥ 0)) && decide (a5 ≤ 20))
 some (b7, ())
noncomputable def spec_l22IsVm.ent : Entry := ⟨[false, false], [.agg [.val .bor (.str), .val .bor (.int .i64), .val .bor (.int .i64), .val .bor (.int .i64), .val .bor (.int .i64), .val .bor (.int .i64), .val .bor (.str), .val .bor (.int .i64)], .cell (.val .bor (.int .i64))], [.cell (.val .bor (.bool))], [], fun v => spec_l22IsVm v.1 v.2.1 v.2.2.1 v.2.2.2.1 v.2.2.2.2.1 v.2.2.2.2.2.1 v.2.2.2.2.2.2.1 v.2.2.2.2.2.2.2.1 v.2.2.2.2.2.2.2.2.1⟩
theorem spec_l22IsVm.eq : ∀ v, evFn spec_l22IsVm.E f22 spec_l22IsVm.ent.ptrs spec_l22IsVm.ent.ins spec_l22IsVm.ent.rets spec_l22IsVm.ent.outs v = spec_l22IsVm.ent.f v := by intro v; kernel_rfl
theorem spec_l22IsVm.fok : ∀ q ∈ [((35 : Nat), spec_l13Name.ent)], EntryOK Pr q.1 q.2 := by
 intro q hq
 simp only [List.mem_cons, List.mem_nil_iff, or_false] at hq
 rcases hq with rfl
 · exact spec_l13Name.ok
theorem spec_l22IsVm.ls : loopsOf (bodyOf f22) = [] := by kernel_rfl
theorem spec_l22IsVm.ok : EntryOK Pr 22 spec_l22IsVm.ent :=
 entry_ok (E := spec_l22IsVm.E) (EnvOK.of dok spec_l22IsVm.fok) mixed (fn := f22) (by kernel_rfl) (by kernel_rfl) (by decide) spec_l22IsVm.ls (by intro l hl; simp at hl) spec_l22IsVm.eq
/-! ### loop.example/g00038/spec.l01Dec -/
noncomputable def spec_l01Dec_step (rec : Int → Option (ByteArray × Unit)) (a0 : Int) : Option (ByteArray × Unit) :=
 bif decide (a0 < 0) then
  bif decide (a0 > -10) then
   (rec (wrap64 (0 - a0))).bind fun r1 =>
   let s2 : ByteArray := ((⟨#[45]⟩ : ByteArray) ++ r1.1)
   bif joins (⟨#[45]⟩ : ByteArray) r1.1 then
    some (s2, ())
   else none
  else
   let x3 : Int := (wrap64 (Int.tdiv a0 10))
   (rec x3).bind fun r4 =>
   let x5 : Int := (wrap64 ((48 : Int) - (Int.tmod a0 10)))
   let s6 : ByteArray := b2s [(IntKind.u8.wrap (x5))]
   bif (!((10 : Int) == 0)) && ((!((10 : Int) == 0)) && (joins r4.1 s6)) then
    some ((r4.1 ++ s6), ())
   else none
 else
 bif decide (a0 < 10) then
  let x7 : Int := (wrap64 ((48 : Int) + a0))
  let s8 : ByteArray := b2s [(IntKind.u8.wrap (x7))]
  some (s8, ())
 else
  let x9 : Int := (wrap64 (Int.tdiv a0 10))
  (rec x9).bind fun r10 =>
  let x11 : Int := (wrap64 ((48 : Int) + (Int.tmod a0 10)))
  let l12 : List Int := [(IntKind.u8.wrap (x11))]
  bif (!((10 : Int) == 0)) && ((!((10 : Int) == 0)) && (joins r10.1 (b2s l12))) then
   some ((r10.1 ++ (b2s l12)), ())
  else none
noncomputable def spec_l01Dec_rec : Nat → Int → Option (ByteArray × Unit)
 | 0 => fun _ => none
 | n + 1 => spec_l01Dec_step (spec_l01Dec_rec n)
noncomputable def spec_l01Dec.entr (n : Nat) : Entry := ⟨[false], [.cell (.val .bor (.int .i64))], [.cell (.val .bor (.str))], [], fun v => spec_l01Dec_rec n v.1⟩
noncomputable def spec_l01Dec.E (n : Nat) : Env := ⟨D, [], [(17, spec_l01Dec.entr n)], []⟩
noncomputable def spec_l01Dec (a0 : Int) : Option (ByteArray × Unit) := spec_l01Dec_rec K0 a0
noncomputable def spec_l01Dec.ent : Entry := ⟨[false], [.cell (.val .bor (.int .i64))], [.cell (.val .bor (.str))], [], fun v => spec_l01Dec v.1⟩
theorem spec_l01Dec.eq : ∀ n v, evFn (spec_l01Dec.E n) f17 (spec_l01Dec.entr (n + 1)).ptrs (spec_l01Dec.entr (n + 1)).ins (spec_l01Dec.entr (n + 1)).rets (spec_l01Dec.entr (n + 1)).outs v = (spec_l01Dec.entr (n + 1)).f v := by intro n v; kernel_rfl
theorem spec_l01Dec.fok (n : Nat) (h : EntryOK Pr 17 (spec_l01Dec.entr n)) : ∀ q ∈ [((17 : Nat), spec_l01Dec.entr n)], EntryOK Pr q.1 q.2 := by
 intro q hq
 simp only [List.mem_cons, List.mem_nil_iff, or_false] at hq
 rcases hq with rfl
 · exact h
theorem spec_l01Dec.ls : loopsOf (bodyOf f17) = [] := by kernel_rfl
theorem spec_l01Dec.ok : EntryOK Pr 17 spec_l01Dec.ent :=
 rec_ok (E := spec_l01Dec.E) (entN := spec_l01Dec.entr) (fn := f17) (fun _ => rfl) (fun n h => EnvOK.of dok (spec_l01Dec.fok n h)) mixed (by kernel_rfl) (by kernel_rfl) (by decide) spec_l01Dec.ls spec_l01Dec.eq K0
/-! ### loop.example/g00038/spec.VmText -/
noncomputable def spec_VmText.E : Env := ⟨D, [], [(22, spec_l22IsVm.ent), (17, spec_l01Dec.ent)], []⟩
noncomputable def spec_VmText (a0 : ByteArray) (a1 : Int) (a2 : Int) (a3 : Int) (a4 : Int) (a5 : Int) (a6 : ByteArray) (a7 : Int) : Option (ByteArray × Unit) :=
 (spec_l22IsVm a0 a1 a2 a3 a4 a5 a6 a7 8).bind fun r1 =>
 bif !r1.1 then
  some ((⟨#[]⟩ : ByteArray), ())
 else
  let s2 : ByteArray := (a0 ++ (⟨#[32, 116, 101, 110, 97, 110, 116, 61]⟩ : ByteArray))
  (spec_l01Dec a1).bind fun r3 =>
  let s4 : ByteArray := ((s2 ++ r3.1) ++ (⟨#[32, 99, 112, 117, 61]⟩ : ByteArray))
  (spec_l01Dec a2).bind fun r5 =>
  let s6 : ByteArray := ((s4 ++ r5.1) ++ (⟨#[32, 109, 101, 109, 61]⟩ : ByteArray))
  (spec_l01Dec a3).bind fun r7 =>
  let s8 : ByteArray := ((s6 ++ r7.1) ++ (⟨#[32, 122, 111, 110, 101, 61]⟩ : ByteArray))
  (spec_l01Dec a4).bind fun r9 =>
  let s10 : ByteArray := ((s8 ++ r9.1) ++ (⟨#[32, 97, 112, 97, 114, 116, 61]⟩ : ByteArray))
  (spec_l01Dec a5).bind fun r11 =>
  bif (joins a0 (⟨#[32, 116, 101, 110, 97, 110, 116, 61]⟩ : ByteArray)) && ((joins s2 r3.1) && ((joins (s2 ++ r3.1) (⟨#[32, 99, 112, 117, 61]⟩ : ByteArray)) && ((joins s4 r5.1) && ((joins (s4 ++ r5.1) (⟨#[32, 109, 101, 109, 61]⟩ : ByteArray)) && ((joins s6 r7.1) && ((joins (s6 ++ r7.1) (⟨#[32, 122, 111, 110, 101, 61]⟩ : ByteArray)) && ((joins s8 r9.1) && ((joins (s8 ++ r9.1) (⟨#[32, 97, 112, 97, 114, 116, 61]⟩ : ByteArray)) && (joins s10 r11.1))))))))) then
   some ((s10 ++ r11.1), ())
  else none
noncomputable def spec_VmText.ent : Entry := ⟨[false], [.agg [.val .bor (.str), .val .bor (.int .i64), .val .bor (.int .i64), .val .bor (.int .i64), .val .bor (.int .i64), .val .bor (.int .i64), .val .bor (.str), .val .bor (.int .i64)]], [.cell (.val .bor (.str))], [], fun v => spec_VmText v.1 v.2.1 v.2.2.1 v.2.2.2.1 v.2.2.2.2.1 v.2.2.2.2.2.1 v.2.2.2.2.2.2.1 v.2.2.2.2.2.2.2.1⟩
theorem spec_VmText.eq : ∀ v, evFn spec_VmText.E f10 spec_VmText.ent.ptrs spec_VmText.ent.ins spec_VmText.ent.rets spec_VmText.ent.outs v = spec_VmText.ent.f v := by intro v; kernel_rfl
theorem spec_VmText.fok : ∀ q ∈ [((22 : Nat), spec_l22IsVm.ent), ((17 : Nat), spec_l01Dec.ent)], EntryOK Pr q.1 q.2 := by
 intro q hq
 simp only [List.mem_cons, List.mem_nil_iff, or_false] at hq
 rcases hq with rfl | rfl
 · exact spec_l22IsVm.ok
 · exact spec_l01Dec.ok
theorem spec_VmText.ls : loopsOf (bodyOf f10) = [] := by kernel_rfl
theorem spec_VmText.ok : EntryOK Pr 10 spec_VmText.ent :=
 entry_ok (E := spec_VmText.E) (EnvOK.of dok spec_VmText.fok) mixed (fn := f10) (by kernel_rfl) (by kernel_rfl) (by decide) spec_VmText.ls (by intro l hl; simp at hl) spec_VmText.eq
/-! ### loop.example/g00038/impl.yisName -/
noncomputable def impl_yisName.E2 : Env := ⟨D, [], [], []⟩
noncomputable def impl_yisName_l2_step (rec : ByteArray → Int → Int → Option ((Bool × Unit) ⊕ (ByteArray × Unit))) (y0 : ByteArray) (y1 : Int) (y2 : Int) : Option ((Bool × Unit) ⊕ (ByteArray × Unit)) :=
 bif decide (y2 < y1) then
  bif decide (0 ≤ y2) && decide (y2 < (y0.size : Int)) then
   let b1 : Bool := (decide (bt y0 y2 ≥ 97) && decide (bt y0 y2 ≤ 122))
   let b2 : Bool := (decide (bt y0 y2 ≥ 48) && decide (bt y0 y2 ≤ 57))
   let b3 : Bool := ((b1 || b2) || (bt y0 y2 == 45))
   bif !b3 then
    some (Sum.inl (false, ()))
   else
    rec y0 y1 (wrap64 (y2 + 1))
  else none
 else
  some (Sum.inr (y0, ()))
noncomputable def impl_yisName_l2 : Nat → ByteArray → Int → Int → Option ((Bool × Unit) ⊕ (ByteArray × Unit))
 | 0 => fun _ _ _ => none
 | n + 1 => impl_yisName_l2_step (impl_yisName_l2 n)
noncomputable def impl_yisName_l2.ent : LEntry := ⟨(.cell (.val .bor (.str)) :: (sk 5 (.cell (.val .bor (.int .i64)) :: (.cell (.val .bor (.int .i64)) :: (sk 33 []))))), rk 41 [], [], [], [⟨none, sk 2 (.cell (.val .bor (.bool)) :: (sk 38 [])), rk 41 [], [], []⟩, ⟨some 0, (.cell (.val .bor (.str)) :: (sk 40 [])), rk 41 [], [], []⟩], fun v => impl_yisName_l2 K0 v.1 v.2.1 v.2.2.1⟩
theorem impl_yisName_l2.eq : ∀ rec v, evStep impl_yisName.E2 (bodyAt 2 f36) impl_yisName_l2.ent.ins impl_yisName_l2.ent.rts impl_yisName_l2.ent.hm impl_yisName_l2.ent.nl impl_yisName_l2.ent.xs rec v = impl_yisName_l2_step (fun c0 c1 c2 => rec (c0, c1, c2, ())) v.1 v.2.1 v.2.2.1 := by intro rec v; kernel_rfl
noncomputable def impl_yisName.E : Env := ⟨D, [], [], [(2, impl_yisName_l2.ent)]⟩
noncomputable def impl_yisName (a0 : ByteArray) : Option (Bool × Unit) :=
 (impl_yisName_l2 K0 a0 (a0.size : Int) 0).bind fun o4 =>
 match o4 with
 | Sum.inl p5 =>
  some (p5.1, ())
 | Sum.inr p6 =>
  let b7 : Bool := decide ((p6.1.size : Int) ≥ 1)
  let b8 : Bool := decide ((p6.1.size : Int) ≤ 20)
  some ((b7 && b8), ())
noncomputable def impl_yisName.ent : Entry := ⟨[false], [.cell (.val .bor (.str))], [.cell (.val .bor (.bool))], [], fun v => impl_yisName v.1⟩
theorem impl_yisName.eq : ∀ v, evFn impl_yisName.E f36 impl_yisName.ent.ptrs impl_yisName.ent.ins impl_yisName.ent.rets impl_yisName.ent.outs v = impl_yisName.ent.f v := by intro v; kernel_rfl
theorem impl_yisName.fok : ∀ q ∈ ([] : List (Nat × Entry)), EntryOK Pr q.1 q.2 := by intro q hq; simp at hq
theorem impl_yisName_l2.it : ∀ n v, iter (evStep impl_yisName.E2 (bodyAt 2 f36) impl_yisName_l2.ent.ins impl_yisName_l2.ent.rts impl_yisName_l2.ent.hm impl_yisName_l2.ent.nl impl_yisName_l2.ent.xs) n v = impl_yisName_l2 n v.1 v.2.1 v.2.2.1 := by
 intro n
 induction n with
 | zero => intro v; rfl
 | succ n ih =>
  intro v
  show (evStep impl_yisName.E2 (bodyAt 2 f36) impl_yisName_l2.ent.ins impl_yisName_l2.ent.rts impl_yisName_l2.ent.hm impl_yisName_l2.ent.nl impl_yisName_l2.ent.xs) (iter (evStep impl_yisName.E2 (bodyAt 2 f36) impl_yisName_l2.ent.ins impl_yisName_l2.ent.rts impl_yisName_l2.ent.hm impl_yisName_l2.ent.nl impl_yisName_l2.ent.xs) n) v = _
  rw [impl_yisName_l2.eq, show (fun c0 c1 c2 => iter (evStep impl_yisName.E2 (bodyAt 2 f36) impl_yisName_l2.ent.ins impl_yisName_l2.ent.rts impl_yisName_l2.ent.hm impl_yisName_l2.ent.nl impl_yisName_l2.ent.xs) n (c0, c1, c2, ())) = impl_yisName_l2 n from by funext c0 c1 c2; exact ih _]
  rfl
theorem impl_yisName_l2.fr : firstRegion (bodyAt 2 f36) = 2 := by kernel_rfl
theorem impl_yisName_l2.ls : loopsOf (bodyAt 2 f36) = [] := by kernel_rfl
theorem impl_yisName_l2.lok {E : Env} (hpin : impl_yisName.E2.pin = E.pin) (hfind : find 2 E.loops = some impl_yisName_l2.ent) : LoopOK Pr E (bodyAt 2 f36) :=
 loop_of (E1 := impl_yisName.E2) (EnvOK.of dok impl_yisName.fok) mixed hpin (by rw [impl_yisName_l2.fr]; exact hfind) impl_yisName_l2.ls (by intro l hl; simp at hl) (fun v => (impl_yisName_l2.it K0 v).symm)
theorem impl_yisName.ls : loopsOf (bodyOf f36) = [bodyAt 2 f36] := by kernel_rfl
theorem impl_yisName.ok : EntryOK Pr 36 impl_yisName.ent :=
 entry_ok (E := impl_yisName.E) (EnvOK.of dok impl_yisName.fok) mixed (fn := f36) (by kernel_rfl) (by kernel_rfl) (by decide) impl_yisName.ls (by intro l hl; simp only [List.mem_singleton] at hl; subst hl; exact impl_yisName_l2.lok rfl rfl) impl_yisName.eq
/-! ### loop.example/g00038/impl.yin -/
noncomputable def impl_yin.E : Env := ⟨D, [], [], []⟩
noncomputable def impl_yin (a0 : Int) (a1 : Int) (a2 : Int) : Option (Bool × Unit) :=
 let b1 : Bool := (decide (a0 ≥ a1) && decide (a0 ≤ a2))
 some (b1, ())
noncomputable def impl_yin.ent : Entry := ⟨[false, false, false], [.cell (.val .bor (.int .i64)), .cell (.val .bor (.int .i64)), .cell (.val .bor (.int .i64))], [.cell (.val .bor (.bool))], [], fun v => impl_yin v.1 v.2.1 v.2.2.1⟩
theorem impl_yin.eq : ∀ v, evFn impl_yin.E f37 impl_yin.ent.ptrs impl_yin.ent.ins impl_yin.ent.rets impl_yin.ent.outs v = impl_yin.ent.f v := by intro v; kernel_rfl
theorem impl_yin.fok : ∀ q ∈ ([] : List (Nat × Entry)), EntryOK Pr q.1 q.2 := by intro q hq; simp at hq
theorem impl_yin.ls : loopsOf (bodyOf f37) = [] := by kernel_rfl
theorem impl_yin.ok : EntryOK Pr 37 impl_yin.ent :=
 entry_ok (E := impl_yin.E) (EnvOK.of dok impl_yin.fok) mixed (fn := f37) (by kernel_rfl) (by kernel_rfl) (by decide) impl_yin.ls (by intro l hl; simp at hl) impl_yin.eq
/-! ### loop.example/g00038/impl.yvmOk -/
noncomputable def impl_yvmOk.E : Env := ⟨D, [], [(36, impl_yisName.ent), (37, impl_yin.ent)], []⟩
noncomputable def impl_yvmOk (a0 : ByteArray) (a1 : Int) (a2 : Int) (a3 : Int) (a4 : Int) (a5 : Int) (a6 : ByteArray) (a7 : Int) (a8 : Int) : Option (Bool × Unit) :=
 (impl_yisName a0).bind fun r1 =>
 let r2 : Bool × Unit := (impl_yin a2 1 64).getD (false, ())
 let r3 : Bool × Unit := (impl_yin a3 1 1000).getD (false, ())
 let r4 : Bool × Unit := (impl_yin a4 0 20).getD (false, ())
 let b5 : Bool := (((r1.1 && r2.1) && r3.1) && r4.1)
 let r6 : Bool × Unit := (impl_yin a5 0 20).getD (false, ())
 let r7 : Bool × Unit := (impl_yin a1 0 (wrap64 (a8 - 1))).getD (false, ())
 bif (!r1.1 || ((impl_yin a2 1 64).isSome)) && ((!(r1.1 && r2.1) || ((impl_yin a3 1 1000).isSome)) && ((!((r1.1 && r2.1) && r3.1) || ((impl_yin a4 0 20).isSome)) && ((!b5 || ((impl_yin a5 0 20).isSome)) && (!(b5 && r6.1) || ((impl_yin a1 0 (wrap64 (a8 - 1))).isSome))))) then
  some (((b5 && r6.1) && r7.1), ())
 else none
noncomputable def impl_yvmOk.ent : Entry := ⟨[false, false], [.agg [.val .bor (.str), .val .bor (.int .i64), .val .bor (.int .i64), .val .bor (.int .i64), .val .bor (.int .i64), .val .bor (.int .i64), .val .bor (.str), .val .bor (.int .i64)], .cell (.val .bor (.int .i64))], [.cell (.val .bor (.bool))], [], fun v => impl_yvmOk v.1 v.2.1 v.2.2.1 v.2.2.2.1 v.2.2.2.2.1 v.2.2.2.2.2.1 v.2.2.2.2.2.2.1 v.2.2.2.2.2.2.2.1 v.2.2.2.2.2.2.2.2.1⟩
theorem impl_yvmOk.eq : ∀ v, evFn impl_yvmOk.E f23 impl_yvmOk.ent.ptrs impl_yvmOk.ent.ins impl_yvmOk.ent.rets impl_yvmOk.ent.outs v = impl_yvmOk.ent.f v := by intro v; kernel_rfl
theorem impl_yvmOk.fok : ∀ q ∈ [((36 : Nat), impl_yisName.ent), ((37 : Nat), impl_yin.ent)], EntryOK Pr q.1 q.2 := by
 intro q hq
 simp only [List.mem_cons, List.mem_nil_iff, or_false] at hq
 rcases hq with rfl | rfl
 · exact impl_yisName.ok
 · exact impl_yin.ok
theorem impl_yvmOk.ls : loopsOf (bodyOf f23) = [] := by kernel_rfl
theorem impl_yvmOk.ok : EntryOK Pr 23 impl_yvmOk.ent :=
 entry_ok (E := impl_yvmOk.E) (EnvOK.of dok impl_yvmOk.fok) mixed (fn := f23) (by kernel_rfl) (by kernel_rfl) (by decide) impl_yvmOk.ls (by intro l hl; simp at hl) impl_yvmOk.eq
/-! ### strconv.FormatInt -/
noncomputable def FormatInt (n b : Int) : Option (ByteArray × Unit) := bif (b == 10) && (decide (-S0 ≤ n) && decide (n ≤ S0)) then some (itoaB n, ()) else none
noncomputable def FormatInt.ent : Entry := ⟨[false, false], [.cell (.val .bor (.int .i64)), .cell (.val .bor (.int .i64))], [.cell (.val .bor (.str))], [], fun v => FormatInt v.1 v.2.1⟩
theorem FormatInt.ok : EntryOK Pr 34 FormatInt.ent := by
  refine foreign_plain (D := D) (res := [.tmp 2]) (k := 1) ⟨f34, bodyOf f34, by kernel_rfl, by kernel_rfl, by decide⟩ (by kernel_rfl) (by decide) (fun r => [.str r.1]) (fun v r => by kernel_rfl) (fun v r => by kernel_rfl) fun v r hr {w S pl args} H hl => ?_
  obtain ⟨x0, x1, rfl⟩ : ∃ x0 x1, args = [x0, x1] := by
    match args, hl with
    | [x0, x1], _ => exact ⟨x0, x1, rfl⟩
  have h0 := H.slots 0
  have h1 := H.slots 1
  change x0 = .int .i64 v.1 at h0
  change x1 = .int .i64 v.2.1 at h1
  subst h0 h1
  change (bif (v.2.1 == 10) && (decide (-S0 ≤ v.1) && decide (v.1 ≤ S0)) then some (itoaB v.1, ()) else none) = some r at hr
  cases hc : (v.2.1 == 10) && (decide (-S0 ≤ v.1) && decide (v.1 ≤ S0)) with
  | false => rw [hc] at hr; cases hr
  | true =>
    rw [hc] at hr
    obtain rfl := Option.some.inj hr
    simp only [Bool.and_eq_true, beq_iff_eq, decide_eq_true_eq, S0_eq] at hc
    obtain ⟨e, h2, h3⟩ := hc
    rw [e]
    refine (Go.Proofs.Tryd.strconv_FormatInt_10 v.1 (by omega) h3 w (tab_pow10 (P := Pr) (by kernel_rfl) (H.stat (_, _) (by unfold tabs; exact List.mem_cons_self)).1)).mono ?_
    rintro en w' ⟨rfl, k, os, rfl⟩
    exact ⟨Fr.of_grow _ _ _, [_], rfl, fun w S s pl => ⟨_, [], rfl, rfl, rfl⟩⟩
/-! ### loop.example/g00038/impl.ydecimal -/
noncomputable def impl_ydecimal.E : Env := ⟨D, [], [(34, FormatInt.ent)], []⟩
noncomputable def impl_ydecimal (a0 : Int) : Option (ByteArray × Unit) :=
 (FormatInt a0 10).bind fun r1 =>
 some (r1.1, ())
noncomputable def impl_ydecimal.ent : Entry := ⟨[false], [.cell (.val .bor (.int .i64))], [.cell (.val .bor (.str))], [], fun v => impl_ydecimal v.1⟩
theorem impl_ydecimal.eq : ∀ v, evFn impl_ydecimal.E f20 impl_ydecimal.ent.ptrs impl_ydecimal.ent.ins impl_ydecimal.ent.rets impl_ydecimal.ent.outs v = impl_ydecimal.ent.f v := by intro v; kernel_rfl
theorem impl_ydecimal.fok : ∀ q ∈ [((34 : Nat), FormatInt.ent)], EntryOK Pr q.1 q.2 := by
 intro q hq
 simp only [List.mem_cons, List.mem_nil_iff, or_false] at hq
 rcases hq with rfl
 · exact FormatInt.ok
theorem impl_ydecimal.ls : loopsOf (bodyOf f20) = [] := by kernel_rfl
theorem impl_ydecimal.ok : EntryOK Pr 20 impl_ydecimal.ent :=
 entry_ok (E := impl_ydecimal.E) (EnvOK.of dok impl_ydecimal.fok) mixed (fn := f20) (by kernel_rfl) (by kernel_rfl) (by decide) impl_ydecimal.ls (by intro l hl; simp at hl) impl_ydecimal.eq
/-! ### strings.Join -/
noncomputable def strJoin (l : List ByteArray) (s : ByteArray) : Option (ByteArray × Unit) := bif decide ((l.length : Int) ≤ M0) && decide (((joinB l s).size : Int) ≤ M0) then some (joinB l s, ()) else none
noncomputable def strJoin.ent : Entry := ⟨[false, false], [.cell (.val .bor (.slice (.str))), .cell (.val .bor (.str))], [.cell (.val .bor (.str))], [], fun v => strJoin v.1 v.2.1⟩
theorem strJoin.ok : EntryOK Pr 33 strJoin.ent := by
  refine foreign_plain (D := D) (res := [.tmp 2]) (k := 1) ⟨f33, bodyOf f33, by kernel_rfl, by kernel_rfl, by decide⟩ (by kernel_rfl) (by decide) (fun r => [.str r.1]) (fun v r => by kernel_rfl) (fun v r => by kernel_rfl) fun v r hr {w S pl args} H hl => ?_
  obtain ⟨x0, x1, rfl⟩ : ∃ x0 x1, args = [x0, x1] := by
    match args, hl with
    | [x0, x1], _ => exact ⟨x0, x1, rfl⟩
  have h0 := H.slots 0
  have h1 := H.slots 1
  change RepC w (S .bor) (.slice .str) v.1 [x0] at h0
  change x1 = .string v.2.1 at h1
  subst h1
  change (bif decide ((v.1.length : Int) ≤ M0) && decide (((joinB v.1 v.2.1).size : Int) ≤ M0) then some (joinB v.1 v.2.1, ()) else none) = some r at hr
  cases hc : decide ((v.1.length : Int) ≤ M0) && decide (((joinB v.1 v.2.1).size : Int) ≤ M0) with
  | false => rw [hc] at hr; cases hr
  | true =>
    rw [hc] at hr
    obtain rfl := Option.some.inj hr
    simp only [Bool.and_eq_true, decide_eq_true_eq, M0_eq] at hc
    obtain ⟨h2, h3⟩ := hc
    rcases strs_of (H.live) h0 with ⟨e, A, c, rfl⟩ | ⟨b, o, c, rfl, hb, hle, hcell⟩
    · rw [e]
      refine (Go.Proofs.Tryd.strings_Join_none A c v.2.1 w).mono ?_
      rintro en w' ⟨rfl, rfl⟩
      exact ⟨Fr.refl _ _, [_], rfl, fun w S s pl => ⟨_, [], rfl, rfl, rfl⟩⟩
    · refine (Go.Proofs.Tryd.strings_Join b o c v.1 v.2.1 w hcell hb (by omega) hle (by rw [joinB_size] at h3; omega)).mono ?_
      rintro en w' ⟨rfl, hw⟩
      exact ⟨Fr.of_below hw, [_], rfl, fun w S s pl => ⟨_, [], rfl, rfl, rfl⟩⟩
/-! ### loop.example/g00038/impl.yjoin -/
noncomputable def impl_yjoin.E : Env := ⟨D, [], [(33, strJoin.ent)], []⟩
noncomputable def impl_yjoin (a0 : List ByteArray) : Option (ByteArray × Unit) :=
 (strJoin a0 (⟨#[]⟩ : ByteArray)).bind fun r1 =>
 some (r1.1, ())
noncomputable def impl_yjoin.ent : Entry := ⟨[false], [.cell (.val .bor (.slice (.str)))], [.cell (.val .bor (.str))], [], fun v => impl_yjoin v.1⟩
theorem impl_yjoin.eq : ∀ v, evFn impl_yjoin.E f19 impl_yjoin.ent.ptrs impl_yjoin.ent.ins impl_yjoin.ent.rets impl_yjoin.ent.outs v = impl_yjoin.ent.f v := by intro v; kernel_rfl
theorem impl_yjoin.fok : ∀ q ∈ [((33 : Nat), strJoin.ent)], EntryOK Pr q.1 q.2 := by
 intro q hq
 simp only [List.mem_cons, List.mem_nil_iff, or_false] at hq
 rcases hq with rfl
 · exact strJoin.ok
theorem impl_yjoin.ls : loopsOf (bodyOf f19) = [] := by kernel_rfl
theorem impl_yjoin.ok : EntryOK Pr 19 impl_yjoin.ent :=
 entry_ok (E := impl_yjoin.E) (EnvOK.of dok impl_yjoin.fok) mixed (fn := f19) (by kernel_rfl) (by kernel_rfl) (by decide) impl_yjoin.ls (by intro l hl; simp at hl) impl_yjoin.eq
/-! ### loop.example/g00038/impl.VmText -/
noncomputable def impl_VmText.E : Env := ⟨D, [], [(23, impl_yvmOk.ent), (20, impl_ydecimal.ent), (19, impl_yjoin.ent)], []⟩
noncomputable def impl_VmText (a0 : ByteArray) (a1 : Int) (a2 : Int) (a3 : Int) (a4 : Int) (a5 : Int) (a6 : ByteArray) (a7 : Int) : Option (ByteArray × Unit) :=
 (impl_yvmOk a0 a1 a2 a3 a4 a5 a6 a7 8).bind fun r1 =>
 bif !r1.1 then
  some ((⟨#[]⟩ : ByteArray), ())
 else
  (impl_ydecimal a1).bind fun r2 =>
  (impl_ydecimal a2).bind fun r3 =>
  (impl_ydecimal a3).bind fun r4 =>
  (impl_ydecimal a4).bind fun r5 =>
  (impl_ydecimal a5).bind fun r6 =>
  let l7 : List ByteArray := [a0, (⟨#[32, 116, 101, 110, 97, 110, 116, 61]⟩ : ByteArray), r2.1, (⟨#[32, 99, 112, 117, 61]⟩ : ByteArray), r3.1, (⟨#[32, 109, 101, 109, 61]⟩ : ByteArray), r4.1, (⟨#[32, 122, 111, 110, 101, 61]⟩ : ByteArray), r5.1, (⟨#[32, 97, 112, 97, 114, 116, 61]⟩ : ByteArray), r6.1]
  (impl_yjoin l7).bind fun r8 =>
  some (r8.1, ())
noncomputable def impl_VmText.ent : Entry := ⟨[false], [.agg [.val .bor (.str), .val .bor (.int .i64), .val .bor (.int .i64), .val .bor (.int .i64), .val .bor (.int .i64), .val .bor (.int .i64), .val .bor (.str), .val .bor (.int .i64)]], [.cell (.val .bor (.str))], [], fun v => impl_VmText v.1 v.2.1 v.2.2.1 v.2.2.2.1 v.2.2.2.2.1 v.2.2.2.2.2.1 v.2.2.2.2.2.2.1 v.2.2.2.2.2.2.2.1⟩
theorem impl_VmText.eq : ∀ v, evFn impl_VmText.E f12 impl_VmText.ent.ptrs impl_VmText.ent.ins impl_VmText.ent.rets impl_VmText.ent.outs v = impl_VmText.ent.f v := by intro v; kernel_rfl
theorem impl_VmText.fok : ∀ q ∈ [((23 : Nat), impl_yvmOk.ent), ((20 : Nat), impl_ydecimal.ent), ((19 : Nat), impl_yjoin.ent)], EntryOK Pr q.1 q.2 := by
 intro q hq
 simp only [List.mem_cons, List.mem_nil_iff, or_false] at hq
 rcases hq with rfl | rfl | rfl
 · exact impl_yvmOk.ok
 · exact impl_ydecimal.ok
 · exact impl_yjoin.ok
theorem impl_VmText.ls : loopsOf (bodyOf f12) = [] := by kernel_rfl
theorem impl_VmText.ok : EntryOK Pr 12 impl_VmText.ent :=
 entry_ok (E := impl_VmText.E) (EnvOK.of dok impl_VmText.fok) mixed (fn := f12) (by kernel_rfl) (by kernel_rfl) (by decide) impl_VmText.ls (by intro l hl; simp at hl) impl_VmText.eq
/-! ### loop.example/g00038/laws.FnExactVmText -/
noncomputable def laws_FnExactVmText.E : Env := ⟨D, [], [(9, laws_szVm.ent), (11, laws_toVm.ent), (10, spec_VmText.ent), (12, impl_VmText.ent)], []⟩
noncomputable def laws_FnExactVmText (a0 : ByteArray) (a1 : Int) (a2 : Int) (a3 : Int) (a4 : Int) (a5 : Int) (a6 : ByteArray) (a7 : Int) : Option (Bool × Unit) :=
 (laws_szVm a0 a1 a2 a3 a4 a5 a6 a7 1048576).bind fun r1 =>
 bif decide (r1.1 < 0) then
  some (true, ())
 else
  (laws_toVm a0 a1 a2 a3 a4 a5 a6 a7).bind fun r2 =>
  (spec_VmText r2.1 r2.2.1 r2.2.2.1 r2.2.2.2.1 r2.2.2.2.2.1 r2.2.2.2.2.2.1 r2.2.2.2.2.2.2.1 r2.2.2.2.2.2.2.2.1).bind fun r3 =>
  (laws_toVm a0 a1 a2 a3 a4 a5 a6 a7).bind fun r4 =>
  (impl_VmText r4.1 r4.2.1 r4.2.2.1 r4.2.2.2.1 r4.2.2.2.2.1 r4.2.2.2.2.2.1 r4.2.2.2.2.2.2.1 r4.2.2.2.2.2.2.2.1).bind fun r5 =>
  bif !seq r5.1 r3.1 then
   some (false, ())
  else
   some (true, ())
noncomputable def laws_FnExactVmText.ent : Entry := ⟨[false], [.agg [.val .bor (.str), .val .bor (.int .i64), .val .bor (.int .i64), .val .bor (.int .i64), .val .bor (.int .i64), .val .bor (.int .i64), .val .bor (.str), .val .bor (.int .i64)]], [.cell (.val .bor (.bool))], [], fun v => laws_FnExactVmText v.1 v.2.1 v.2.2.1 v.2.2.2.1 v.2.2.2.2.1 v.2.2.2.2.2.1 v.2.2.2.2.2.2.1 v.2.2.2.2.2.2.2.1⟩
theorem laws_FnExactVmText.eq : ∀ v, evFn laws_FnExactVmText.E f4 laws_FnExactVmText.ent.ptrs laws_FnExactVmText.ent.ins laws_FnExactVmText.ent.rets laws_FnExactVmText.ent.outs v = laws_FnExactVmText.ent.f v := by intro v; kernel_rfl
theorem laws_FnExactVmText.fok : ∀ q ∈ [((9 : Nat), laws_szVm.ent), ((11 : Nat), laws_toVm.ent), ((10 : Nat), spec_VmText.ent), ((12 : Nat), impl_VmText.ent)], EntryOK Pr q.1 q.2 := by
 intro q hq
 simp only [List.mem_cons, List.mem_nil_iff, or_false] at hq
 rcases hq with rfl | rfl | rfl | rfl
 · exact laws_szVm.ok
 · exact laws_toVm.ok
 · exact spec_VmText.ok
 · exact impl_VmText.ok
theorem laws_FnExactVmText.ls : loopsOf (bodyOf f4) = [] := by kernel_rfl
theorem laws_FnExactVmText.ok : EntryOK Pr 4 laws_FnExactVmText.ent :=
 entry_ok (E := laws_FnExactVmText.E) (EnvOK.of dok laws_FnExactVmText.fok) mixed (fn := f4) (by kernel_rfl) (by kernel_rfl) (by decide) laws_FnExactVmText.ls (by intro l hl; simp at hl) laws_FnExactVmText.eq
end Go.Ab.FnExactVmText