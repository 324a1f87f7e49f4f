/- The functions that the law FnExactHelloText reaches, over plain values, and that each does what its code does: part 1 of 1. Without conditions. -/
import Derived.Test.YtbhbcpglepgbbaaDoorProg
import Derived.Test.YtbhbcpglepgbbaaDoorAbD
import Derived.Test.YtbhbcpglepgbbaaDoorShelf
import Derived.Test.YtbhbcpglepgbbaaDoorHello
namespace Go.Ab.FnExactHelloText
open Go.RowKit
set_option linter.unusedVariables false
set_option maxRecDepth 100000
noncomputable def tds : List (Option TD) := [
  none,
  some ⟨.other, 1, .opq, 8, false⟩,
  some ⟨.int .i64, 1, .int .i64, 8, false⟩,
  some ⟨.int .i64, 1, .int .i64, 8, false⟩,
  some ⟨.bool, 1, .bool, 1, false⟩,
  some ⟨.int .u8, 1, .int .u8, 1, false⟩,
  some ⟨.int .u8, 1, .int .u8, 1, false⟩,
  some ⟨.struct [(0, 2), (1, 3), (2, 4), (3, 6)], 4, .pair (.int .i64) (.pair (.int .i64) (.pair (.bool) (.int .u8))), 24, true⟩,
  some ⟨.struct [(0, 2), (1, 3), (2, 4), (3, 6)], 4, .pair (.int .i64) (.pair (.int .i64) (.pair (.bool) (.int .u8))), 24, true⟩,
  some ⟨.str, 1, .str, 16, false⟩,
  some ⟨.str, 1, .str, 16, false⟩,
  some ⟨.str, 1, .str, 16, false⟩,
  some ⟨.int .u64, 1, .int .u64, 8, false⟩,
  none,
  none,
  some ⟨.ptr 109, 1, .opq, 8, false⟩,
  some ⟨.ptr 112, 1, .opq, 8, false⟩,
  some ⟨.ptr 120, 1, .opq, 8, false⟩,
  some ⟨.struct [(0, 17)], 1, .opq, 8, true⟩,
  some ⟨.struct [(0, 17)], 1, .opq, 8, true⟩,
  none,
  some ⟨.int .i32, 1, .int .i32, 4, false⟩,
  some ⟨.other, 1, .opq, 8, false⟩,
  some ⟨.other, 1, .opq, 8, false⟩,
  some ⟨.struct [(0, 9), (1, 2), (2, 2), (3, 2), (4, 2), (5, 2), (6, 9), (7, 2)], 8, .pair (.str) (.pair (.int .i64) (.pair (.int .i64) (.pair (.int .i64) (.pair (.int .i64) (.pair (.int .i64) (.pair (.str) (.int .i64))))))), 80, true⟩,
  some ⟨.struct [(0, 9), (1, 2), (2, 2), (3, 2), (4, 2), (5, 2), (6, 9), (7, 2)], 8, .pair (.str) (.pair (.int .i64) (.pair (.int .i64) (.pair (.int .i64) (.pair (.int .i64) (.pair (.int .i64) (.pair (.str) (.int .i64))))))), 80, true⟩,
  some ⟨.other, 1, .opq, 8, false⟩,
  some ⟨.other, 1, .opq, 8, false⟩,
  some ⟨.struct [(0, 9), (1, 2), (2, 2), (3, 2), (4, 2), (5, 2), (6, 9), (7, 2)], 8, .pair (.str) (.pair (.int .i64) (.pair (.int .i64) (.pair (.int .i64) (.pair (.int .i64) (.pair (.int .i64) (.pair (.str) (.int .i64))))))), 80, true⟩,
  some ⟨.other, 1, .opq, 8, false⟩,
  some ⟨.other, 1, .opq, 8, false⟩,
  some ⟨.other, 1, .opq, 8, false⟩,
  some ⟨.other, 1, .opq, 8, false⟩,
  some ⟨.slice 5, 1, .slice (.int .u8), 24, false⟩,
  some ⟨.other, 1, .opq, 8, false⟩,
  some ⟨.other, 1, .opq, 8, false⟩,
  some ⟨.other, 1, .opq, 8, false⟩,
  some ⟨.ptr 39, 1, .opq, 8, false⟩,
  some ⟨.struct [(0, 37), (1, 33)], 2, .pair (.opq) (.slice (.int .u8)), 32, true⟩,
  some ⟨.struct [(0, 37), (1, 33)], 2, .pair (.opq) (.slice (.int .u8)), 32, true⟩,
  none,
  none,
  none,
  some ⟨.other, 1, .opq, 8, false⟩,
  some ⟨.other, 1, .opq, 8, false⟩,
  some ⟨.other, 1, .opq, 8, false⟩,
  some ⟨.other, 1, .opq, 8, false⟩,
  some ⟨.other, 1, .opq, 8, false⟩,
  some ⟨.slice 9, 1, .slice (.str), 24, false⟩,
  some ⟨.other, 1, .opq, 8, false⟩,
  some ⟨.other, 1, .opq, 8, false⟩,
  some ⟨.other, 1, .opq, 8, false⟩,
  some ⟨.other, 1, .opq, 8, false⟩,
  some ⟨.ptr 2, 1, .opq, 8, false⟩,
  some ⟨.slice 53, 1, .slice (.opq), 24, false⟩,
  none,
  some ⟨.other, 1, .opq, 8, false⟩,
  none,
  some ⟨.other, 1, .opq, 8, false⟩,
  some ⟨.ptr 71, 1, .opq, 8, false⟩,
  some ⟨.other, 1, .opq, 8, false⟩,
  some ⟨.other, 1, .opq, 8, false⟩,
  some ⟨.other, 1, .opq, 8, false⟩,
  some ⟨.other, 1, .opq, 8, false⟩,
  some ⟨.ptr 5, 1, .opq, 8, false⟩,
  some ⟨.other, 1, .opq, 8, false⟩,
  some ⟨.other, 1, .opq, 8, false⟩,
  some ⟨.other, 1, .opq, 8, false⟩,
  some ⟨.other, 1, .opq, 8, false⟩,
  some ⟨.int .u64, 1, .int .u64, 8, false⟩,
  some ⟨.struct [(0, 33), (1, 3), (2, 69), (3, 2)], 4, .pair (.slice (.int .u8)) (.pair (.int .i64) (.pair (.int .u64) (.int .i64))), 48, true⟩,
  some ⟨.struct [(0, 33), (1, 3), (2, 69), (3, 2)], 4, .pair (.slice (.int .u8)) (.pair (.int .i64) (.pair (.int .u64) (.int .i64))), 48, true⟩,
  some ⟨.other, 1, .opq, 8, false⟩,
  some ⟨.other, 1, .opq, 8, false⟩,
  some ⟨.slice 2, 1, .slice (.int .i64), 24, false⟩,
  some ⟨.other, 1, .opq, 8, false⟩,
  some ⟨.other, 1, .opq, 8, false⟩,
  some ⟨.other, 1, .opq, 8, false⟩,
  some ⟨.other, 1, .opq, 8, false⟩,
  some ⟨.other, 1, .opq, 8, false⟩,
  some ⟨.int .u64, 1, .int .u64, 8, false⟩,
  some ⟨.other, 1, .opq, 8, false⟩,
  some ⟨.arr 24 5, 24, .pair (.int .u8) (.pair (.int .u8) (.pair (.int .u8) (.pair (.int .u8) (.pair (.int .u8) (.pair (.int .u8) (.pair (.int .u8) (.pair (.int .u8) (.pair (.int .u8) (.pair (.int .u8) (.pair (.int .u8) (.pair (.int .u8) (.pair (.int .u8) (.pair (.int .u8) (.pair (.int .u8) (.pair (.int .u8) (.pair (.int .u8) (.pair (.int .u8) (.pair (.int .u8) (.pair (.int .u8) (.pair (.int .u8) (.pair (.int .u8) (.pair (.int .u8) (.int .u8))))))))))))))))))))))), 24, true⟩,
  some ⟨.other, 1, .opq, 8, false⟩,
  some ⟨.other, 1, .opq, 8, false⟩,
  none,
  some ⟨.other, 1, .opq, 8, false⟩,
  some ⟨.other, 1, .opq, 8, false⟩,
  none,
  some ⟨.other, 1, .opq, 8, false⟩,
  some ⟨.other, 1, .opq, 8, false⟩,
  some ⟨.other, 1, .opq, 8, false⟩,
  some ⟨.other, 1, .opq, 8, false⟩,
  some ⟨.other, 1, .opq, 8, false⟩,
  some ⟨.arr 20 69, 20, .pair (.int .u64) (.pair (.int .u64) (.pair (.int .u64) (.pair (.int .u64) (.pair (.int .u64) (.pair (.int .u64) (.pair (.int .u64) (.pair (.int .u64) (.pair (.int .u64) (.pair (.int .u64) (.pair (.int .u64) (.pair (.int .u64) (.pair (.int .u64) (.pair (.int .u64) (.pair (.int .u64) (.pair (.int .u64) (.pair (.int .u64) (.pair (.int .u64) (.pair (.int .u64) (.int .u64))))))))))))))))))), 160, true⟩,
  some ⟨.int .u32, 1, .int .u32, 4, false⟩,
  some ⟨.arr 65 5, 65, .pair (.int .u8) (.pair (.int .u8) (.pair (.int .u8) (.pair (.int .u8) (.pair (.int .u8) (.pair (.int .u8) (.pair (.int .u8) (.pair (.int .u8) (.pair (.int .u8) (.pair (.int .u8) (.pair (.int .u8) (.pair (.int .u8) (.pair (.int .u8) (.pair (.int .u8) (.pair (.int .u8) (.pair (.int .u8) (.pair (.int .u8) (.pair (.int .u8) (.pair (.int .u8) (.pair (.int .u8) (.pair (.int .u8) (.pair (.int .u8) (.pair (.int .u8) (.pair (.int .u8) (.pair (.int .u8) (.pair (.int .u8) (.pair (.int .u8) (.pair (.int .u8) (.pair (.int .u8) (.pair (.int .u8) (.pair (.int .u8) (.pair (.int .u8) (.pair (.int .u8) (.pair (.int .u8) (.pair (.int .u8) (.pair (.int .u8) (.pair (.int .u8) (.pair (.int .u8) (.pair (.int .u8) (.pair (.int .u8) (.pair (.int .u8) (.pair (.int .u8) (.pair (.int .u8) (.pair (.int .u8) (.pair (.int .u8) (.pair (.int .u8) (.pair (.int .u8) (.pair (.int .u8) (.pair (.int .u8) (.pair (.int .u8) (.pair (.int .u8) (.pair (.int .u8) (.pair (.int .u8) (.pair (.int .u8) (.pair (.int .u8) (.pair (.int .u8) (.pair (.int .u8) (.pair (.int .u8) (.pair (.int .u8) (.pair (.int .u8) (.pair (.int .u8) (.pair (.int .u8) (.pair (.int .u8) (.pair (.int .u8) (.int .u8)))))))))))))))))))))))))))))))))))))))))))))))))))))))))))))))), 65, true⟩,
  some ⟨.other, 1, .opq, 8, false⟩,
  some ⟨.other, 1, .opq, 8, false⟩,
  none,
  some ⟨.other, 1, .opq, 8, false⟩,
  some ⟨.other, 1, .opq, 8, false⟩,
  some ⟨.arr 256 5, 256, .pair (.int .u8) (.pair (.int .u8) (.pair (.int .u8) (.pair (.int .u8) (.pair (.int .u8) (.pair (.int .u8) (.pair (.int .u8) (.pair (.int .u8) (.pair (.int .u8) (.pair (.int .u8) (.pair (.int .u8) (.pair (.int .u8) (.pair (.int .u8) (.pair (.int .u8) (.pair (.int .u8) (.pair (.int .u8) (.pair (.int .u8) (.pair (.int .u8) (.pair (.int .u8) (.pair (.int .u8) (.pair (.int .u8) (.pair (.int .u8) (.pair (.int .u8) (.pair (.int .u8) (.pair (.int .u8) (.pair (.int .u8) (.pair (.int .u8) (.pair (.int .u8) (.pair (.int .u8) (.pair (.int .u8) (.pair (.int .u8) (.pair (.int .u8) (.pair (.int .u8) (.pair (.int .u8) (.pair (.int .u8) (.pair (.int .u8) (.pair (.int .u8) (.pair (.int .u8) (.pair (.int .u8) (.pair (.int .u8) (.pair (.int .u8) (.pair (.int .u8) (.pair (.int .u8) (.pair (.int .u8) (.pair (.int .u8) (.pair (.int .u8) (.pair (.int .u8) (.pair (.int .u8) (.pair (.int .u8) (.pair (.int .u8) (.pair (.int .u8) (.pair (.int .u8) (.pair (.int .u8) (.pair (.int .u8) (.pair (.int .u8) (.pair (.int .u8) (.pair (.int .u8) (.pair (.int .u8) (.pair (.int .u8) (.pair (.int .u8) (.pair (.int .u8) (.pair (.int .u8) (.pair (.int .u8) (.pair (.int .u8) (.pair (.int .u8) (.pair (.int .u8) (.pair (.int .u8) (.pair (.int .u8) (.pair (.int .u8) (.pair (.int .u8) (.pair (.int .u8) (.pair (.int .u8) (.pair (.int .u8) (.pair (.int .u8) (.pair (.int .u8) (.pair (.int .u8) (.pair (.int .u8) (.pair (.int .u8) (.pair (.int .u8) (.pair (.int .u8) (.pair (.int .u8) (.pair (.int .u8) (.pair (.int .u8) (.pair (.int .u8) (.pair (.int .u8) (.pair (.int .u8) (.pair (.int .u8) (.pair (.int .u8) (.pair (.int .u8) (.pair (.int .u8) (.pair (.int .u8) (.pair (.int .u8) (.pair (.int .u8) (.pair (.int .u8) (.pair (.int .u8) (.pair (.int .u8) (.pair (.int .u8) (.pair (.int .u8) (.pair (.int .u8) (.pair (.int .u8) (.pair (.int .u8) (.pair (.int .u8) (.pair (.int .u8) (.pair (.int .u8) (.pair (.int .u8) (.pair (.int .u8) (.pair (.int .u8) (.pair (.int .u8) (.pair (.int .u8) (.pair (.int .u8) (.pair (.int .u8) (.pair (.int .u8) (.pair (.int .u8) (.pair (.int .u8) (.pair (.int .u8) (.pair (.int .u8) (.pair (.int .u8) (.pair (.int .u8) (.pair (.int .u8) (.pair (.int .u8) (.pair (.int .u8) (.pair (.int .u8) (.pair (.int .u8) (.pair (.int .u8) (.pair (.int .u8) (.pair (.int .u8) (.pair (.int .u8) (.pair (.int .u8) (.pair (.int .u8) (.pair (.int .u8) (.pair (.int .u8) (.pair (.int .u8) (.pair (.int .u8) (.pair (.int .u8) (.pair (.int .u8) (.pair (.int .u8) (.pair (.int .u8) (.pair (.int .u8) (.pair (.int .u8) (.pair (.int .u8) (.pair (.int .u8) (.pair (.int .u8) (.pair (.int .u8) (.pair (.int .u8) (.pair (.int .u8) (.pair (.int .u8) (.pair (.int .u8) (.pair (.int .u8) (.pair (.int .u8) (.pair (.int .u8) (.pair (.int .u8) (.pair (.int .u8) (.pair (.int .u8) (.pair (.int .u8) (.pair (.int .u8) (.pair (.int .u8) (.pair (.int .u8) (.pair (.int .u8) (.pair (.int .u8) (.pair (.int .u8) (.pair (.int .u8) (.pair (.int .u8) (.pair (.int .u8) (.pair (.int .u8) (.pair (.int .u8) (.pair (.int .u8) (.pair (.int .u8) (.pair (.int .u8) (.pair (.int .u8) (.pair (.int .u8) (.pair (.int .u8) (.pair (.int .u8) (.pair (.int .u8) (.pair (.int .u8) (.pair (.int .u8) (.pair (.int .u8) (.pair (.int .u8) (.pair (.int .u8) (.pair (.int .u8) (.pair (.int .u8) (.pair (.int .u8) (.pair (.int .u8) (.pair (.int .u8) (.pair (.int .u8) (.pair (.int .u8) (.pair (.int .u8) (.pair (.int .u8) (.pair (.int .u8) (.pair (.int .u8) (.pair (.int .u8) (.pair (.int .u8) (.pair (.int .u8) (.pair (.int .u8) (.pair (.int .u8) (.pair (.int .u8) (.pair (.int .u8) (.pair (.int .u8) (.pair (.int .u8) (.pair (.int .u8) (.pair (.int .u8) (.pair (.int .u8) (.pair (.int .u8) (.pair (.int .u8) (.pair (.int .u8) (.pair (.int .u8) (.pair (.int .u8) (.pair (.int .u8) (.pair (.int .u8) (.pair (.int .u8) (.pair (.int .u8) (.pair (.int .u8) (.pair (.int .u8) (.pair (.int .u8) (.pair (.int .u8) (.pair (.int .u8) (.pair (.int .u8) (.pair (.int .u8) (.pair (.int .u8) (.pair (.int .u8) (.pair (.int .u8) (.pair (.int .u8) (.pair (.int .u8) (.pair (.int .u8) (.pair (.int .u8) (.pair (.int .u8) (.pair (.int .u8) (.pair (.int .u8) (.pair (.int .u8) (.pair (.int .u8) (.pair (.int .u8) (.pair (.int .u8) (.pair (.int .u8) (.pair (.int .u8) (.pair (.int .u8) (.pair (.int .u8) (.pair (.int .u8) (.pair (.int .u8) (.pair (.int .u8) (.pair (.int .u8) (.pair (.int .u8) (.pair (.int .u8) (.pair (.int .u8) (.pair (.int .u8) (.pair (.int .u8) (.pair (.int .u8) (.pair (.int .u8) (.pair (.int .u8) (.pair (.int .u8) (.pair (.int .u8) (.pair (.int .u8) (.pair (.int .u8) (.pair (.int .u8) (.pair (.int .u8) (.pair (.int .u8) (.pair (.int .u8) (.int .u8))))))))))))))))))))))))))))))))))))))))))))))))))))))))))))))))))))))))))))))))))))))))))))))))))))))))))))))))))))))))))))))))))))))))))))))))))))))))))))))))))))))))))))))))))))))))))))))))))))))))))))))))))))))))))))))))))))))))))))))))))))))))))))))), 256, true⟩,
  some ⟨.struct [(0, 5), (1, 5)], 2, .pair (.int .u8) (.int .u8), 2, true⟩,
  some ⟨.struct [(0, 5), (1, 5)], 2, .pair (.int .u8) (.int .u8), 2, true⟩,
  some ⟨.arr 16 104, 32, .pair (.int .u8) (.pair (.int .u8) (.pair (.int .u8) (.pair (.int .u8) (.pair (.int .u8) (.pair (.int .u8) (.pair (.int .u8) (.pair (.int .u8) (.pair (.int .u8) (.pair (.int .u8) (.pair (.int .u8) (.pair (.int .u8) (.pair (.int .u8) (.pair (.int .u8) (.pair (.int .u8) (.pair (.int .u8) (.pair (.int .u8) (.pair (.int .u8) (.pair (.int .u8) (.pair (.int .u8) (.pair (.int .u8) (.pair (.int .u8) (.pair (.int .u8) (.pair (.int .u8) (.pair (.int .u8) (.pair (.int .u8) (.pair (.int .u8) (.pair (.int .u8) (.pair (.int .u8) (.pair (.int .u8) (.pair (.int .u8) (.int .u8))))))))))))))))))))))))))))))), 32, true⟩,
  some ⟨.arr 32 5, 32, .pair (.int .u8) (.pair (.int .u8) (.pair (.int .u8) (.pair (.int .u8) (.pair (.int .u8) (.pair (.int .u8) (.pair (.int .u8) (.pair (.int .u8) (.pair (.int .u8) (.pair (.int .u8) (.pair (.int .u8) (.pair (.int .u8) (.pair (.int .u8) (.pair (.int .u8) (.pair (.int .u8) (.pair (.int .u8) (.pair (.int .u8) (.pair (.int .u8) (.pair (.int .u8) (.pair (.int .u8) (.pair (.int .u8) (.pair (.int .u8) (.pair (.int .u8) (.pair (.int .u8) (.pair (.int .u8) (.pair (.int .u8) (.pair (.int .u8) (.pair (.int .u8) (.pair (.int .u8) (.pair (.int .u8) (.pair (.int .u8) (.int .u8))))))))))))))))))))))))))))))), 32, true⟩,
  some ⟨.arr 64 5, 64, .pair (.int .u8) (.pair (.int .u8) (.pair (.int .u8) (.pair (.int .u8) (.pair (.int .u8) (.pair (.int .u8) (.pair (.int .u8) (.pair (.int .u8) (.pair (.int .u8) (.pair (.int .u8) (.pair (.int .u8) (.pair (.int .u8) (.pair (.int .u8) (.pair (.int .u8) (.pair (.int .u8) (.pair (.int .u8) (.pair (.int .u8) (.pair (.int .u8) (.pair (.int .u8) (.pair (.int .u8) (.pair (.int .u8) (.pair (.int .u8) (.pair (.int .u8) (.pair (.int .u8) (.pair (.int .u8) (.pair (.int .u8) (.pair (.int .u8) (.pair (.int .u8) (.pair (.int .u8) (.pair (.int .u8) (.pair (.int .u8) (.pair (.int .u8) (.pair (.int .u8) (.pair (.int .u8) (.pair (.int .u8) (.pair (.int .u8) (.pair (.int .u8) (.pair (.int .u8) (.pair (.int .u8) (.pair (.int .u8) (.pair (.int .u8) (.pair (.int .u8) (.pair (.int .u8) (.pair (.int .u8) (.pair (.int .u8) (.pair (.int .u8) (.pair (.int .u8) (.pair (.int .u8) (.pair (.int .u8) (.pair (.int .u8) (.pair (.int .u8) (.pair (.int .u8) (.pair (.int .u8) (.pair (.int .u8) (.pair (.int .u8) (.pair (.int .u8) (.pair (.int .u8) (.pair (.int .u8) (.pair (.int .u8) (.pair (.int .u8) (.pair (.int .u8) (.pair (.int .u8) (.pair (.int .u8) (.int .u8))))))))))))))))))))))))))))))))))))))))))))))))))))))))))))))), 64, true⟩,
  some ⟨.struct [(0, 17), (1, 17), (2, 17), (3, 9)], 4, .pair (.opq) (.pair (.opq) (.pair (.opq) (.str))), 40, true⟩,
  some ⟨.struct [(0, 17), (1, 17), (2, 17), (3, 9)], 4, .pair (.opq) (.pair (.opq) (.pair (.opq) (.str))), 40, true⟩,
  none,
  none,
  none,
  some ⟨.other, 1, .opq, 8, false⟩,
  some ⟨.int .u8, 1, .int .u8, 1, false⟩,
  some ⟨.int .u8, 1, .int .u8, 1, false⟩,
  some ⟨.other, 1, .opq, 8, false⟩,
  some ⟨.int .i32, 1, .int .i32, 4, false⟩,
  some ⟨.int .i32, 1, .int .i32, 4, false⟩,
  some ⟨.struct [(0, 12), (1, 12), (2, 95), (3, 114), (4, 5), (5, 5), (6, 115), (7, 116), (8, 64), (9, 117), (10, 118)], 11, .pair (.int .u64) (.pair (.int .u64) (.pair (.int .u32) (.pair (.int .u8) (.pair (.int .u8) (.pair (.int .u8) (.pair (.int .u8) (.pair (.opq) (.pair (.opq) (.pair (.int .i32) (.int .i32)))))))))), 48, true⟩,
  some ⟨.struct [(0, 12), (1, 12), (2, 95), (3, 114), (4, 5), (5, 5), (6, 115), (7, 116), (8, 64), (9, 117), (10, 118)], 11, .pair (.int .u64) (.pair (.int .u64) (.pair (.int .u32) (.pair (.int .u8) (.pair (.int .u8) (.pair (.int .u8) (.pair (.int .u8) (.pair (.opq) (.pair (.opq) (.pair (.int .i32) (.int .i32)))))))))), 48, true⟩]
noncomputable def D : TypeId → Option TD := nthD tds
noncomputable abbrev Pr : Program := Go.Proofs.Tryd.prog
theorem tdsOk : okTds Pr (nthD tds) 0 tds = true := by kernel_rfl
theorem dok : Dok Pr D := dok_of tdsOk
theorem mixed : Pr.follows .mixedOrders = true := by kernel_rfl
/-- the decimal text of a number -/
noncomputable def itoaB (n : Int) : ByteArray := ⟨(Go.Lib.itoa n).toArray⟩
/-- texts put together -/
noncomputable def joinB (l : List ByteArray) (s : ByteArray) : ByteArray := ⟨(Go.Lib.join (l.map (·.data.toList)) s.data.toList).toArray⟩
theorem joinB_size (l : List ByteArray) (s : ByteArray) : (joinB l s).size = (Go.Lib.join (l.map (·.data.toList)) s.data.toList).length := by
  simp [joinB, ByteArray.size]
theorem Fr.of_below {O : Cset} {w w' : World} (h : Below w.heap.size w w') : Fr O w w' :=
  ⟨h.os, h.tape, h.output, h.size, fun b a hb => ⟨a, by rw [h.block b (Array.getElem?_eq_some_iff.1 hb).1]; exact hb, .inl rfl⟩⟩
theorem Fr.of_grow {O : Cset} (w : World) (k : Nat) (os : Array Obj) : Fr O w (Go.Sort.grow (w.drewN k) os) :=
  ⟨rfl, rfl, rfl, by show w.heap.size ≤ (w.heap ++ os).size; simp, fun b a hb => ⟨a, by
    show (w.heap ++ os)[b]? = some a
    rw [Array.getElem?_append_left (Array.getElem?_eq_some_iff.1 hb).1]; exact hb, .inl rfl⟩⟩
theorem tab_pow10 {P : Program} {w : World} {g : Nat} (hg : P.globalNamed "internal/strconv.uint64pow10" = some g)
    (h : ∃ c t e, w.heap[g]? = some (.cells c t e) ∧ c = (([1, 10, 100, 1000, 10000, 100000, 1000000, 10000000, 100000000, 1000000000, 10000000000, 100000000000, 1000000000000, 10000000000000, 100000000000000, 1000000000000000, 10000000000000000, 100000000000000000, 1000000000000000000, 10000000000000000000] : List Int).map fun z => Value.int .u64 z).toArray) :
    Go.Lib.TabIs P w "internal/strconv.uint64pow10" .u64 Go.Lib.pow10Tab := by
  obtain ⟨c, t, e, h1, rfl⟩ := h
  unfold Go.Lib.TabIs World.var?
  rw [hg]
  simp only [Option.bind_some, h1]
  rfl
/-- a row of strings, as a contract asks for it -/
theorem strs_of {w : World} {S : Cset} (hS : ∀ b x, S b x → b < w.heap.size) {l : List ByteArray} {x : Value} (h : RepC w S (.slice .str) l [x]) :
    (l = [] ∧ ∃ A c, x = .slice A 0 c) ∨ ∃ b o c, x = .slice (some ⟨b, o, none⟩) l.length c ∧ b < w.heap.size ∧ l.length ≤ c ∧ ∀ (j : Nat) y, l[j]? = some y → w.cell? ⟨b, o + j, none⟩ = some (.string y) := by
  obtain ⟨A, cap, e, hle, h⟩ := h
  simp only [List.cons.injEq, and_true] at e
  cases l with
  | nil => exact .inl ⟨rfl, A, cap, e⟩
  | cons y0 l =>
    obtain ⟨a, rfl, hs, h⟩ := h (by simp)
    have hc : ∀ (j : Nat) y, (y0 :: l)[j]? = some y → w.cell? (at_ a.block (a.off + j)) = some (.string y) ∧ S a.block (a.off + j) := fun j y hy => by
      obtain ⟨row, h1, h2, h3⟩ := h j y hy
      change row = [.string y] at h3
      subst h3
      have := h2 0 (.string y) rfl
      simpa [Ty.sz'] using this
    refine .inr ⟨a.block, a.off, cap, ?_, hS _ _ (hc 0 y0 rfl).2, hle, fun j y hy => (hc j y hy).1⟩
    rw [e]
    congr 2
    cases a
    simp only at hs
    subst hs
    rfl

noncomputable abbrev f3 : Func := Go.Proofs.Tryd.f3
noncomputable abbrev f7 : Func := Go.Proofs.Tryd.f7
noncomputable abbrev f8 : Func := Go.Proofs.Tryd.f8
noncomputable abbrev f17 : Func := Go.Proofs.Tryd.f17
/-! ### loop.example/g00038/spec.l01Dec -/
noncomputable def spec_l01Dec_step (rec : Int → Option (ByteArray × Unit)) (a0 : Int) : Option (ByteArray × Unit) :=
 bif decide (a0 < 0) then
  bif decide (a0 > -10) then
   (rec (wrap64 (0 - a0))).bind fun r1 =>
   let s2 : ByteArray := ((⟨#[45]⟩ : ByteArray) ++ r1.1)
   bif joins (⟨#[45]⟩ : ByteArray) r1.1 then
    some (s2, ())
   else none
  else
   let x3 : Int := (wrap64 (Int.tdiv a0 10))
   (rec x3).bind fun r4 =>
   let x5 : Int := (wrap64 ((48 : Int) - (Int.tmod a0 10)))
   let s6 : ByteArray := b2s [(IntKind.u8.wrap (x5))]
   bif (!((10 : Int) == 0)) && ((!((10 : Int) == 0)) && (joins r4.1 s6)) then
    some ((r4.1 ++ s6), ())
   else none
 else
 bif decide (a0 < 10) then
  let x7 : Int := (wrap64 ((48 : Int) + a0))
  let s8 : ByteArray := b2s [(IntKind.u8.wrap (x7))]
  some (s8, ())
 else
  let x9 : Int := (wrap64 (Int.tdiv a0 10))
  (rec x9).bind fun r10 =>
  let x11 : Int := (wrap64 ((48 : Int) + (Int.tmod a0 10)))
  let l12 : List Int := [(IntKind.u8.wrap (x11))]
  bif (!((10 : Int) == 0)) && ((!((10 : Int) == 0)) && (joins r10.1 (b2s l12))) then
   some ((r10.1 ++ (b2s l12)), ())
  else none
noncomputable def spec_l01Dec_rec : Nat → Int → Option (ByteArray × Unit)
 | 0 => fun _ => none
 | n + 1 => spec_l01Dec_step (spec_l01Dec_rec n)
noncomputable def spec_l01Dec.entr (n : Nat) : Entry := ⟨[false], [.cell (.val .bor (.int .i64))], [.cell (.val .bor (.str))], [], fun v => spec_l01Dec_rec n v.1⟩
noncomputable def spec_l01Dec.E (n : Nat) : Env := ⟨D, [], [(17, spec_l01Dec.entr n)], []⟩
noncomputable def spec_l01Dec (a0 : Int) : Option (ByteArray × Unit) := spec_l01Dec_rec K0 a0
noncomputable def spec_l01Dec.ent : Entry := ⟨[false], [.cell (.val .bor (.int .i64))], [.cell (.val .bor (.str))], [], fun v => spec_l01Dec v.1⟩
theorem spec_l01Dec.eq : ∀ n v, evFn (spec_l01Dec.E n) f17 (spec_l01Dec.entr (n + 1)).ptrs (spec_l01Dec.entr (n + 1)).ins (spec_l01Dec.entr (n + 1)).rets (spec_l01Dec.entr (n + 1)).outs v = (spec_l01Dec.entr (n + 1)).f v := by intro n v; kernel_rfl
theorem spec_l01Dec.fok (n : Nat) (h : EntryOK Pr 17 (spec_l01Dec.entr n)) : ∀ q ∈ [((17 : Nat), spec_l01Dec.entr n)], EntryOK Pr q.1 q.2 := by
 intro q hq
 simp only [List.mem_cons, List.mem_nil_iff, or_false] at hq
 rcases hq with rfl
 · exact h
theorem spec_l01Dec.ls : loopsOf (bodyOf f17) = [] := by kernel_rfl
theorem spec_l01Dec.ok : EntryOK Pr 17 spec_l01Dec.ent :=
 rec_ok (E := spec_l01Dec.E) (entN := spec_l01Dec.entr) (fn := f17) (fun _ => rfl) (fun n h => EnvOK.of dok (spec_l01Dec.fok n h)) mixed (by kernel_rfl) (by kernel_rfl) (by decide) spec_l01Dec.ls spec_l01Dec.eq K0
/-! ### loop.example/g00038/spec.HelloText -/
noncomputable def spec_HelloText.E5 : Env := ⟨D, [], [(17, spec_l01Dec.ent)], []⟩
noncomputable def spec_HelloText_l5_step (rec : ByteArray → ByteArray → Int → Option ((ByteArray × Unit))) (y0 : ByteArray) (y1 : ByteArray) (y2 : Int) : Option ((ByteArray × Unit)) :=
 let b2 : Bool := decide (y2 < (y0.size : Int))
 bif b2 then
  let s3 : ByteArray := (y1 ++ (⟨#[97, 100, 100, 105, 32, 114, 49, 44, 32, 114, 48, 44, 32]⟩ : ByteArray))
  (spec_l01Dec (wrap64 (bt y0 y2))).bind fun r4 =>
  let s5 : ByteArray := ((s3 ++ r4.1) ++ (⟨#[10, 111, 117, 116, 32, 114, 49, 44, 32, 49, 10]⟩ : ByteArray))
  bif (joins y1 (⟨#[97, 100, 100, 105, 32, 114, 49, 44, 32, 114, 48, 44, 32]⟩ : ByteArray)) && ((decide (0 ≤ y2) && decide (y2 < (y0.size : Int))) && ((joins s3 r4.1) && (joins (s3 ++ r4.1) (⟨#[10, 111, 117, 116, 32, 114, 49, 44, 32, 49, 10]⟩ : ByteArray)))) then
   rec y0 s5 (wrap64 (y2 + 1))
  else none
 else
  some (y1, ())
noncomputable def spec_HelloText_l5 : Nat → ByteArray → ByteArray → Int → Option ((ByteArray × Unit))
 | 0 => fun _ _ _ => none
 | n + 1 => spec_HelloText_l5_step (spec_HelloText_l5 n)
noncomputable def spec_HelloText_l5.ent : LEntry := ⟨(.cell (.val .bor (.str)) :: (sk 2 (.cell (.val .bor (.str)) :: (.cell (.val .bor (.int .i64)) :: (sk 20 []))))), rk 25 [], [], [], [⟨some 0, sk 3 (.cell (.val .bor (.str)) :: (sk 21 [])), rk 25 [], [], []⟩], fun v => spec_HelloText_l5 K0 v.1 v.2.1 v.2.2.1⟩
theorem spec_HelloText_l5.eq : ∀ rec v, evStep spec_HelloText.E5 (bodyAt 5 f7) spec_HelloText_l5.ent.ins spec_HelloText_l5.ent.rts spec_HelloText_l5.ent.hm spec_HelloText_l5.ent.nl spec_HelloText_l5.ent.xs rec v = spec_HelloText_l5_step (fun c0 c1 c2 => rec (c0, c1, c2, ())) v.1 v.2.1 v.2.2.1 := by intro rec v; kernel_rfl
noncomputable def spec_HelloText.E : Env := ⟨D, [], [(17, spec_l01Dec.ent)], [(5, spec_HelloText_l5.ent)]⟩
noncomputable def spec_HelloText (a0 : ByteArray) : Option (ByteArray × Unit) :=
 let b1 : Bool := decide ((a0.size : Int) > 100)
 bif b1 then
  some ((⟨#[]⟩ : ByteArray), ())
 else
  (spec_HelloText_l5 K0 a0 (⟨#[]⟩ : ByteArray) 0).bind fun o6 =>
  let s7 : ByteArray := (o6.1 ++ (⟨#[104, 97, 108, 116, 10]⟩ : ByteArray))
  bif joins o6.1 (⟨#[104, 97, 108, 116, 10]⟩ : ByteArray) then
   some (s7, ())
  else none
noncomputable def spec_HelloText.ent : Entry := ⟨[false], [.cell (.val .bor (.str))], [.cell (.val .bor (.str))], [], fun v => spec_HelloText v.1⟩
theorem spec_HelloText.eq : ∀ v, evFn spec_HelloText.E f7 spec_HelloText.ent.ptrs spec_HelloText.ent.ins spec_HelloText.ent.rets spec_HelloText.ent.outs v = spec_HelloText.ent.f v := by intro v; kernel_rfl
theorem spec_HelloText.fok : ∀ q ∈ [((17 : Nat), spec_l01Dec.ent)], EntryOK Pr q.1 q.2 := by
 intro q hq
 simp only [List.mem_cons, List.mem_nil_iff, or_false] at hq
 rcases hq with rfl
 · exact spec_l01Dec.ok
theorem spec_HelloText_l5.it : ∀ n v, iter (evStep spec_HelloText.E5 (bodyAt 5 f7) spec_HelloText_l5.ent.ins spec_HelloText_l5.ent.rts spec_HelloText_l5.ent.hm spec_HelloText_l5.ent.nl spec_HelloText_l5.ent.xs) n v = spec_HelloText_l5 n v.1 v.2.1 v.2.2.1 := by
 intro n
 induction n with
 | zero => intro v; rfl
 | succ n ih =>
  intro v
  show (evStep spec_HelloText.E5 (bodyAt 5 f7) spec_HelloText_l5.ent.ins spec_HelloText_l5.ent.rts spec_HelloText_l5.ent.hm spec_HelloText_l5.ent.nl spec_HelloText_l5.ent.xs) (iter (evStep spec_HelloText.E5 (bodyAt 5 f7) spec_HelloText_l5.ent.ins spec_HelloText_l5.ent.rts spec_HelloText_l5.ent.hm spec_HelloText_l5.ent.nl spec_HelloText_l5.ent.xs) n) v = _
  rw [spec_HelloText_l5.eq, show (fun c0 c1 c2 => iter (evStep spec_HelloText.E5 (bodyAt 5 f7) spec_HelloText_l5.ent.ins spec_HelloText_l5.ent.rts spec_HelloText_l5.ent.hm spec_HelloText_l5.ent.nl spec_HelloText_l5.ent.xs) n (c0, c1, c2, ())) = spec_HelloText_l5 n from by funext c0 c1 c2; exact ih _]
  rfl
theorem spec_HelloText_l5.fr : firstRegion (bodyAt 5 f7) = 5 := by kernel_rfl
theorem spec_HelloText_l5.ls : loopsOf (bodyAt 5 f7) = [] := by kernel_rfl
theorem spec_HelloText_l5.lok {E : Env} (hpin : spec_HelloText.E5.pin = E.pin) (hfind : find 5 E.loops = some spec_HelloText_l5.ent) : LoopOK Pr E (bodyAt 5 f7) :=
 loop_of (E1 := spec_HelloText.E5) (EnvOK.of dok spec_HelloText.fok) mixed hpin (by rw [spec_HelloText_l5.fr]; exact hfind) spec_HelloText_l5.ls (by intro l hl; simp at hl) (fun v => (spec_HelloText_l5.it K0 v).symm)
theorem spec_HelloText.ls : loopsOf (bodyOf f7) = [bodyAt 5 f7] := by kernel_rfl
theorem spec_HelloText.ok : EntryOK Pr 7 spec_HelloText.ent :=
 entry_ok (E := spec_HelloText.E) (EnvOK.of dok spec_HelloText.fok) mixed (fn := f7) (by kernel_rfl) (by kernel_rfl) (by decide) spec_HelloText.ls (by intro l hl; simp only [List.mem_singleton] at hl; subst hl; exact spec_HelloText_l5.lok rfl rfl) spec_HelloText.eq
/-! ### loop.example/g00038/impl.HelloText -/
noncomputable def helloB (s : ByteArray) : ByteArray := ⟨(Go.Proofs.Tryd.helloOf s.data.toList ++ [104, 97, 108, 116, 10]).toArray⟩
noncomputable def impl_HelloText (s : ByteArray) : Option (ByteArray × Unit) := bif decide ((s.size : Int) > 100) then some (⟨#[]⟩, ()) else some (helloB s, ())
noncomputable def impl_HelloText.ent : Entry := ⟨[false], [.cell (.val .bor (.str))], [.cell (.val .bor (.str))], [], fun v => impl_HelloText v.1⟩
theorem impl_HelloText.ok : EntryOK Pr 8 impl_HelloText.ent := by
  refine foreign_plain (D := D) (res := [.tmp 1]) (k := 1) ⟨f8, bodyOf f8, by kernel_rfl, by kernel_rfl, by decide⟩ (by kernel_rfl) (by decide) (fun r => [.str r.1]) (fun v r => by kernel_rfl) (fun v r => by kernel_rfl) fun v r hr {w S pl args} H hl => ?_
  obtain ⟨x0, rfl⟩ : ∃ x0, args = [x0] := by
    match args, hl with
    | [x0], _ => exact ⟨x0, rfl⟩
  have h0 := H.slots 0
  change x0 = .string v.1 at h0
  subst h0
  change (bif decide ((v.1.size : Int) > 100) then some ((⟨#[]⟩ : ByteArray), ()) else some (helloB v.1, ())) = some r at hr
  by_cases hc : v.1.size ≤ 100
  · rw [show decide ((v.1.size : Int) > 100) = false from decide_eq_false (by omega)] at hr
    obtain rfl := Option.some.inj hr
    refine (Go.Proofs.Tryd.hello_walk v.1 w hc (tab_pow10 (P := Pr) (by kernel_rfl) (H.stat (_, _) (by unfold tabs; exact List.mem_cons_self)).1)).mono ?_
    rintro en w' ⟨rfl, hw⟩
    exact ⟨Fr.of_below hw, [_], rfl, fun w S s pl => ⟨_, [], rfl, rfl, rfl⟩⟩
  · rw [show decide ((v.1.size : Int) > 100) = true from decide_eq_true (by omega)] at hr
    obtain rfl := Option.some.inj hr
    refine (Go.Proofs.Tryd.hello_long v.1 w hc).mono ?_
    rintro en w' ⟨rfl, rfl⟩
    exact ⟨Fr.refl _ _, [_], rfl, fun w S s pl => ⟨_, [], rfl, rfl, rfl⟩⟩
/-! ### loop.example/g00038/laws.FnExactHelloText -/
noncomputable def laws_FnExactHelloText.E : Env := ⟨D, [], [(7, spec_HelloText.ent), (8, impl_HelloText.ent)], []⟩
noncomputable def laws_FnExactHelloText (a0 : ByteArray) : Option (Bool × Unit) :=
 let b1 : Bool := decide ((a0.size : Int) > 1048576)
 bif b1 then
  some (true, ())
 else
  (spec_HelloText a0).bind fun r2 =>
  (impl_HelloText a0).bind fun r3 =>
  bif !seq r3.1 r2.1 then
   some (false, ())
  else
   some (true, ())
noncomputable def laws_FnExactHelloText.ent : Entry := ⟨[false], [.cell (.val .bor (.str))], [.cell (.val .bor (.bool))], [], fun v => laws_FnExactHelloText v.1⟩
theorem laws_FnExactHelloText.eq : ∀ v, evFn laws_FnExactHelloText.E f3 laws_FnExactHelloText.ent.ptrs laws_FnExactHelloText.ent.ins laws_FnExactHelloText.ent.rets laws_FnExactHelloText.ent.outs v = laws_FnExactHelloText.ent.f v := by intro v; kernel_rfl
theorem laws_FnExactHelloText.fok : ∀ q ∈ [((7 : Nat), spec_HelloText.ent), ((8 : Nat), impl_HelloText.ent)], EntryOK Pr q.1 q.2 := by
 intro q hq
 simp only [List.mem_cons, List.mem_nil_iff, or_false] at hq
 rcases hq with rfl | rfl
 · exact spec_HelloText.ok
 · exact impl_HelloText.ok
theorem laws_FnExactHelloText.ls : loopsOf (bodyOf f3) = [] := by kernel_rfl
theorem laws_FnExactHelloText.ok : EntryOK Pr 3 laws_FnExactHelloText.ent :=
 entry_ok (E := laws_FnExactHelloText.E) (EnvOK.of dok laws_FnExactHelloText.fok) mixed (fn := f3) (by kernel_rfl) (by kernel_rfl) (by decide) laws_FnExactHelloText.ls (by intro l hl; simp at hl) laws_FnExactHelloText.eq
end Go.Ab.FnExactHelloText