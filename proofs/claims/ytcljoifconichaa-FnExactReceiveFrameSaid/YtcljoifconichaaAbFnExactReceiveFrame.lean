/- The functions that the law FnExactReceiveFrame reaches, over plain values, and that each does what its code does: part 1 of 1. Without conditions. -/
import Derived.Test.YtcljoifconichaaProg
import Derived.Test.YtcljoifconichaaAbD
namespace Go.Ab.FnExactReceiveFrame
open Go.RowKit
set_option linter.unusedVariables false
set_option maxRecDepth 100000
noncomputable def tds : List (Option TD) := [
  none,
  some ⟨.other, 1, .opq, 8, false⟩,
  some ⟨.int .i64, 1, .int .i64, 8, false⟩,
  some ⟨.int .i64, 1, .int .i64, 8, false⟩,
  some ⟨.bool, 1, .bool, 1, false⟩,
  some ⟨.int .u8, 1, .int .u8, 1, false⟩,
  some ⟨.int .u8, 1, .int .u8, 1, false⟩,
  some ⟨.struct [(0, 2), (1, 3), (2, 4), (3, 6)], 4, .pair (.int .i64) (.pair (.int .i64) (.pair (.bool) (.int .u8))), 24, true⟩,
  some ⟨.struct [(0, 2), (1, 3), (2, 4), (3, 6)], 4, .pair (.int .i64) (.pair (.int .i64) (.pair (.bool) (.int .u8))), 24, true⟩,
  some ⟨.str, 1, .str, 16, false⟩,
  some ⟨.str, 1, .str, 16, false⟩,
  some ⟨.str, 1, .str, 16, false⟩,
  some ⟨.int .u64, 1, .int .u64, 8, false⟩,
  none,
  none,
  some ⟨.ptr 135, 1, .opq, 8, false⟩,
  some ⟨.ptr 138, 1, .opq, 8, false⟩,
  some ⟨.ptr 147, 1, .opq, 8, false⟩,
  some ⟨.struct [(0, 17)], 1, .opq, 8, true⟩,
  some ⟨.struct [(0, 17)], 1, .opq, 8, true⟩,
  none,
  some ⟨.int .i32, 1, .int .i32, 4, false⟩,
  some ⟨.struct [(0, 2), (1, 2), (2, 2), (3, 4)], 4, .pair (.int .i64) (.pair (.int .i64) (.pair (.int .i64) (.bool))), 32, true⟩,
  some ⟨.struct [(0, 2), (1, 2), (2, 2), (3, 4)], 4, .pair (.int .i64) (.pair (.int .i64) (.pair (.int .i64) (.bool))), 32, true⟩,
  some ⟨.struct [(0, 2), (1, 2), (2, 2), (3, 4)], 4, .pair (.int .i64) (.pair (.int .i64) (.pair (.int .i64) (.bool))), 32, true⟩,
  some ⟨.slice 9, 1, .slice (.str), 24, false⟩,
  some ⟨.struct [(0, 2), (1, 9), (2, 24), (6, 25)], 7, .pair (.int .i64) (.pair (.str) (.pair (.int .i64) (.pair (.int .i64) (.pair (.int .i64) (.pair (.bool) (.slice (.str))))))), 80, true⟩,
  some ⟨.struct [(0, 2), (1, 9), (2, 24), (6, 25)], 7, .pair (.int .i64) (.pair (.str) (.pair (.int .i64) (.pair (.int .i64) (.pair (.int .i64) (.pair (.bool) (.slice (.str))))))), 80, true⟩,
  some ⟨.other, 1, .opq, 8, false⟩,
  some ⟨.other, 1, .opq, 8, false⟩,
  some ⟨.other, 1, .opq, 8, false⟩,
  some ⟨.other, 1, .opq, 8, false⟩,
  some ⟨.other, 1, .opq, 8, false⟩,
  some ⟨.struct [(0, 2), (1, 2), (2, 2), (3, 2), (4, 2), (5, 2)], 6, .pair (.int .i64) (.pair (.int .i64) (.pair (.int .i64) (.pair (.int .i64) (.pair (.int .i64) (.int .i64))))), 48, true⟩,
  some ⟨.struct [(0, 2), (1, 2), (2, 2), (3, 2), (4, 2), (5, 2)], 6, .pair (.int .i64) (.pair (.int .i64) (.pair (.int .i64) (.pair (.int .i64) (.pair (.int .i64) (.int .i64))))), 48, true⟩,
  some ⟨.struct [(0, 2), (1, 2), (2, 2), (3, 2), (4, 2), (5, 2)], 6, .pair (.int .i64) (.pair (.int .i64) (.pair (.int .i64) (.pair (.int .i64) (.pair (.int .i64) (.int .i64))))), 48, true⟩,
  some ⟨.struct [(0, 2), (1, 9), (2, 35), (8, 9), (9, 2), (10, 4)], 11, .pair (.int .i64) (.pair (.str) (.pair (.int .i64) (.pair (.int .i64) (.pair (.int .i64) (.pair (.int .i64) (.pair (.int .i64) (.pair (.int .i64) (.pair (.str) (.pair (.int .i64) (.bool)))))))))), 104, true⟩,
  some ⟨.struct [(0, 2), (1, 9), (2, 35), (8, 9), (9, 2), (10, 4)], 11, .pair (.int .i64) (.pair (.str) (.pair (.int .i64) (.pair (.int .i64) (.pair (.int .i64) (.pair (.int .i64) (.pair (.int .i64) (.pair (.int .i64) (.pair (.str) (.pair (.int .i64) (.bool)))))))))), 104, true⟩,
  some ⟨.other, 1, .opq, 8, false⟩,
  some ⟨.other, 1, .opq, 8, false⟩,
  some ⟨.other, 1, .opq, 8, false⟩,
  some ⟨.other, 1, .opq, 8, false⟩,
  some ⟨.slice 5, 1, .slice (.int .u8), 24, false⟩,
  some ⟨.other, 1, .opq, 8, false⟩,
  some ⟨.other, 1, .opq, 8, false⟩,
  some ⟨.struct [(0, 2), (1, 9), (2, 35), (8, 4)], 9, .pair (.int .i64) (.pair (.str) (.pair (.int .i64) (.pair (.int .i64) (.pair (.int .i64) (.pair (.int .i64) (.pair (.int .i64) (.pair (.int .i64) (.bool)))))))), 80, true⟩,
  some ⟨.struct [(0, 2), (1, 9), (2, 35), (8, 4)], 9, .pair (.int .i64) (.pair (.str) (.pair (.int .i64) (.pair (.int .i64) (.pair (.int .i64) (.pair (.int .i64) (.pair (.int .i64) (.pair (.int .i64) (.bool)))))))), 80, true⟩,
  some ⟨.other, 1, .opq, 8, false⟩,
  some ⟨.struct [(0, 2), (1, 2), (2, 4)], 3, .pair (.int .i64) (.pair (.int .i64) (.bool)), 24, true⟩,
  some ⟨.struct [(0, 2), (1, 2), (2, 4)], 3, .pair (.int .i64) (.pair (.int .i64) (.bool)), 24, true⟩,
  some ⟨.slice 49, 1, .slice (.pair (.int .i64) (.pair (.int .i64) (.bool))), 24, false⟩,
  some ⟨.other, 1, .opq, 8, false⟩,
  some ⟨.other, 1, .opq, 8, false⟩,
  none,
  some ⟨.other, 1, .opq, 8, false⟩,
  some ⟨.struct [(0, 2), (1, 2), (2, 50), (3, 35)], 9, .pair (.int .i64) (.pair (.int .i64) (.pair (.slice (.pair (.int .i64) (.pair (.int .i64) (.bool)))) (.pair (.int .i64) (.pair (.int .i64) (.pair (.int .i64) (.pair (.int .i64) (.pair (.int .i64) (.int .i64)))))))), 88, true⟩,
  some ⟨.struct [(0, 2), (1, 2), (2, 50), (3, 35)], 9, .pair (.int .i64) (.pair (.int .i64) (.pair (.slice (.pair (.int .i64) (.pair (.int .i64) (.bool)))) (.pair (.int .i64) (.pair (.int .i64) (.pair (.int .i64) (.pair (.int .i64) (.pair (.int .i64) (.int .i64)))))))), 88, true⟩,
  some ⟨.other, 1, .opq, 8, false⟩,
  some ⟨.other, 1, .opq, 8, false⟩,
  some ⟨.struct [(0, 4), (1, 2)], 2, .pair (.bool) (.int .i64), 16, true⟩,
  some ⟨.struct [(0, 4), (1, 2)], 2, .pair (.bool) (.int .i64), 16, true⟩,
  some ⟨.other, 1, .opq, 8, false⟩,
  some ⟨.other, 1, .opq, 8, false⟩,
  some ⟨.other, 1, .opq, 8, false⟩,
  some ⟨.struct [(0, 2), (1, 2), (2, 2), (3, 50)], 4, .pair (.int .i64) (.pair (.int .i64) (.pair (.int .i64) (.slice (.pair (.int .i64) (.pair (.int .i64) (.bool)))))), 48, true⟩,
  some ⟨.struct [(0, 2), (1, 2), (2, 2), (3, 50)], 4, .pair (.int .i64) (.pair (.int .i64) (.pair (.int .i64) (.slice (.pair (.int .i64) (.pair (.int .i64) (.bool)))))), 48, true⟩,
  some ⟨.other, 1, .opq, 8, false⟩,
  some ⟨.other, 1, .opq, 8, false⟩,
  some ⟨.struct [(0, 2), (1, 9), (2, 24)], 6, .pair (.int .i64) (.pair (.str) (.pair (.int .i64) (.pair (.int .i64) (.pair (.int .i64) (.bool))))), 56, true⟩,
  some ⟨.struct [(0, 2), (1, 9), (2, 24)], 6, .pair (.int .i64) (.pair (.str) (.pair (.int .i64) (.pair (.int .i64) (.pair (.int .i64) (.bool))))), 56, true⟩,
  some ⟨.other, 1, .opq, 8, false⟩,
  some ⟨.other, 1, .opq, 8, false⟩,
  none,
  some ⟨.other, 1, .opq, 8, false⟩,
  some ⟨.other, 1, .opq, 8, false⟩,
  some ⟨.other, 1, .opq, 8, false⟩,
  some ⟨.other, 1, .opq, 8, false⟩,
  some ⟨.other, 1, .opq, 8, false⟩,
  some ⟨.other, 1, .opq, 8, false⟩,
  some ⟨.other, 1, .opq, 8, false⟩,
  some ⟨.other, 1, .opq, 8, false⟩,
  some ⟨.other, 1, .opq, 8, false⟩,
  some ⟨.other, 1, .opq, 8, false⟩,
  some ⟨.other, 1, .opq, 8, false⟩,
  some ⟨.other, 1, .opq, 8, false⟩,
  some ⟨.other, 1, .opq, 8, false⟩,
  some ⟨.other, 1, .opq, 8, false⟩,
  some ⟨.other, 1, .opq, 8, false⟩,
  some ⟨.ptr 90, 1, .opq, 8, false⟩,
  some ⟨.struct [(0, 42), (1, 9)], 2, .pair (.slice (.int .u8)) (.str), 40, true⟩,
  some ⟨.struct [(0, 42), (1, 9)], 2, .pair (.slice (.int .u8)) (.str), 40, true⟩,
  none,
  none,
  none,
  some ⟨.other, 1, .opq, 8, false⟩,
  some ⟨.ptr 125, 1, .opq, 8, false⟩,
  some ⟨.other, 1, .opq, 8, false⟩,
  none,
  some ⟨.other, 1, .opq, 8, false⟩,
  some ⟨.other, 1, .opq, 8, false⟩,
  none,
  some ⟨.other, 1, .opq, 8, false⟩,
  some ⟨.other, 1, .opq, 8, false⟩,
  some ⟨.other, 1, .opq, 8, false⟩,
  some ⟨.struct [(0, 2), (1, 50)], 2, .pair (.int .i64) (.slice (.pair (.int .i64) (.pair (.int .i64) (.bool)))), 32, true⟩,
  some ⟨.struct [(0, 2), (1, 50)], 2, .pair (.int .i64) (.slice (.pair (.int .i64) (.pair (.int .i64) (.bool)))), 32, true⟩,
  some ⟨.other, 1, .opq, 8, false⟩,
  some ⟨.other, 1, .opq, 8, false⟩,
  some ⟨.other, 1, .opq, 8, false⟩,
  some ⟨.other, 1, .opq, 8, false⟩,
  some ⟨.other, 1, .opq, 8, false⟩,
  some ⟨.arr 4 2, 4, .pair (.int .i64) (.pair (.int .i64) (.pair (.int .i64) (.int .i64))), 32, true⟩,
  some ⟨.arr 4 2, 4, .pair (.int .i64) (.pair (.int .i64) (.pair (.int .i64) (.int .i64))), 32, true⟩,
  some ⟨.other, 1, .opq, 8, false⟩,
  none,
  some ⟨.other, 1, .opq, 8, false⟩,
  some ⟨.other, 1, .opq, 8, false⟩,
  some ⟨.other, 1, .opq, 8, false⟩,
  some ⟨.other, 1, .opq, 8, false⟩,
  some ⟨.slice 2, 1, .slice (.int .i64), 24, false⟩,
  some ⟨.other, 1, .opq, 8, false⟩,
  some ⟨.other, 1, .opq, 8, false⟩,
  some ⟨.int .u64, 1, .int .u64, 8, false⟩,
  some ⟨.int .u64, 1, .int .u64, 8, false⟩,
  some ⟨.struct [(0, 42), (1, 3), (2, 123), (3, 2)], 4, .pair (.slice (.int .u8)) (.pair (.int .i64) (.pair (.int .u64) (.int .i64))), 48, true⟩,
  some ⟨.struct [(0, 42), (1, 3), (2, 123), (3, 2)], 4, .pair (.slice (.int .u8)) (.pair (.int .i64) (.pair (.int .u64) (.int .i64))), 48, true⟩,
  some ⟨.other, 1, .opq, 8, false⟩,
  some ⟨.other, 1, .opq, 8, false⟩,
  some ⟨.other, 1, .opq, 8, false⟩,
  some ⟨.other, 1, .opq, 8, false⟩,
  some ⟨.other, 1, .opq, 8, false⟩,
  some ⟨.other, 1, .opq, 8, false⟩,
  some ⟨.int .u32, 1, .int .u32, 4, false⟩,
  some ⟨.other, 1, .opq, 8, false⟩,
  some ⟨.struct [(0, 17), (1, 17), (2, 17), (3, 9)], 4, .pair (.opq) (.pair (.opq) (.pair (.opq) (.str))), 40, true⟩,
  some ⟨.struct [(0, 17), (1, 17), (2, 17), (3, 9)], 4, .pair (.opq) (.pair (.opq) (.pair (.opq) (.str))), 40, true⟩,
  none,
  none,
  none,
  some ⟨.other, 1, .opq, 8, false⟩,
  some ⟨.int .u8, 1, .int .u8, 1, false⟩,
  some ⟨.int .u8, 1, .int .u8, 1, false⟩,
  some ⟨.other, 1, .opq, 8, false⟩,
  some ⟨.ptr 5, 1, .opq, 8, false⟩,
  some ⟨.int .i32, 1, .int .i32, 4, false⟩,
  some ⟨.int .i32, 1, .int .i32, 4, false⟩,
  some ⟨.struct [(0, 12), (1, 12), (2, 132), (3, 140), (4, 5), (5, 5), (6, 141), (7, 142), (8, 143), (9, 144), (10, 145)], 11, .pair (.int .u64) (.pair (.int .u64) (.pair (.int .u32) (.pair (.int .u8) (.pair (.int .u8) (.pair (.int .u8) (.pair (.int .u8) (.pair (.opq) (.pair (.opq) (.pair (.int .i32) (.int .i32)))))))))), 48, true⟩,
  some ⟨.struct [(0, 12), (1, 12), (2, 132), (3, 140), (4, 5), (5, 5), (6, 141), (7, 142), (8, 143), (9, 144), (10, 145)], 11, .pair (.int .u64) (.pair (.int .u64) (.pair (.int .u32) (.pair (.int .u8) (.pair (.int .u8) (.pair (.int .u8) (.pair (.int .u8) (.pair (.opq) (.pair (.opq) (.pair (.int .i32) (.int .i32)))))))))), 48, true⟩,
  some ⟨.other, 1, .opq, 8, false⟩,
  none,
  some ⟨.other, 1, .opq, 8, false⟩,
  none,
  some ⟨.other, 1, .opq, 8, false⟩,
  some ⟨.other, 1, .opq, 8, false⟩,
  some ⟨.ptr 156, 1, .opq, 8, false⟩,
  some ⟨.struct [(0, 154), (1, 42)], 2, .pair (.opq) (.slice (.int .u8)), 32, true⟩,
  some ⟨.struct [(0, 154), (1, 42)], 2, .pair (.opq) (.slice (.int .u8)), 32, true⟩,
  some ⟨.other, 1, .opq, 8, false⟩,
  none,
  none,
  none,
  some ⟨.other, 1, .opq, 8, false⟩,
  none,
  some ⟨.other, 1, .opq, 8, false⟩,
  none,
  some ⟨.other, 1, .opq, 8, false⟩,
  some ⟨.other, 1, .opq, 8, false⟩,
  some ⟨.other, 1, .opq, 8, false⟩,
  some ⟨.other, 1, .opq, 8, false⟩]
noncomputable def D : TypeId → Option TD := nthD tds
noncomputable abbrev Pr : Program := Go.Proofs.Try.prog
theorem tdsOk : okTds Pr (nthD tds) 0 tds = true := by kernel_rfl
theorem dok : Dok Pr D := dok_of tdsOk
theorem mixed : Pr.follows .mixedOrders = true := by kernel_rfl
abbrev R1 : Ty := .pair (.int .i64) (.pair (.int .i64) (.bool))
abbrev V1 : Type := Int × Int × Bool
noncomputable abbrev f4 : Func := Go.Proofs.Try.f4
noncomputable abbrev f13 : Func := Go.Proofs.Try.f13
noncomputable abbrev f14 : Func := Go.Proofs.Try.f14
noncomputable abbrev f15 : Func := Go.Proofs.Try.f15
noncomputable abbrev f16 : Func := Go.Proofs.Try.f16
noncomputable abbrev f18 : Func := Go.Proofs.Try.f18
noncomputable abbrev f23 : Func := Go.Proofs.Try.f23
noncomputable abbrev f25 : Func := Go.Proofs.Try.f25
noncomputable abbrev f32 : Func := Go.Proofs.Try.f32
noncomputable abbrev f39 : Func := Go.Proofs.Try.f39
noncomputable abbrev f40 : Func := Go.Proofs.Try.f40
noncomputable abbrev f41 : Func := Go.Proofs.Try.f41
noncomputable abbrev f42 : Func := Go.Proofs.Try.f42
noncomputable abbrev f43 : Func := Go.Proofs.Try.f43
noncomputable abbrev f44 : Func := Go.Proofs.Try.f44
noncomputable abbrev f45 : Func := Go.Proofs.Try.f45
noncomputable abbrev f46 : Func := Go.Proofs.Try.f46
noncomputable abbrev f47 : Func := Go.Proofs.Try.f47
noncomputable abbrev f48 : Func := Go.Proofs.Try.f48
noncomputable abbrev f49 : Func := Go.Proofs.Try.f49
noncomputable abbrev f50 : Func := Go.Proofs.Try.f50
noncomputable abbrev f52 : Func := Go.Proofs.Try.f52
noncomputable abbrev f62 : Func := Go.Proofs.Try.f62
noncomputable abbrev f63 : Func := Go.Proofs.Try.f63
noncomputable abbrev f64 : Func := Go.Proofs.Try.f64
noncomputable abbrev f65 : Func := Go.Proofs.Try.f65
noncomputable abbrev f66 : Func := Go.Proofs.Try.f66
noncomputable abbrev f67 : Func := Go.Proofs.Try.f67
noncomputable abbrev f69 : Func := Go.Proofs.Try.f69
noncomputable abbrev f70 : Func := Go.Proofs.Try.f70
noncomputable abbrev f71 : Func := Go.Proofs.Try.f71
noncomputable abbrev f72 : Func := Go.Proofs.Try.f72
noncomputable abbrev f74 : Func := Go.Proofs.Try.f74
noncomputable abbrev f75 : Func := Go.Proofs.Try.f75
noncomputable abbrev f76 : Func := Go.Proofs.Try.f76
noncomputable abbrev f77 : Func := Go.Proofs.Try.f77
noncomputable abbrev f78 : Func := Go.Proofs.Try.f78
noncomputable abbrev f79 : Func := Go.Proofs.Try.f79
noncomputable abbrev f80 : Func := Go.Proofs.Try.f80
noncomputable abbrev f81 : Func := Go.Proofs.Try.f81
noncomputable abbrev f82 : Func := Go.Proofs.Try.f82
noncomputable abbrev f83 : Func := Go.Proofs.Try.f83
noncomputable abbrev f87 : Func := Go.Proofs.Try.f87
noncomputable abbrev f88 : Func := Go.Proofs.Try.f88
noncomputable abbrev f89 : Func := Go.Proofs.Try.f89
noncomputable abbrev f90 : Func := Go.Proofs.Try.f90
noncomputable abbrev f91 : Func := Go.Proofs.Try.f91
/-! ### loop.example/g00038/laws.toQueue -/
noncomputable def laws_toQueue.E : Env := ⟨D, [], [], []⟩
noncomputable def laws_toQueue (a0 : Int) (a1 : Int) (a2 : Int) (a3 : Int) (a4 : Int) (a5 : Int) : Option (Int × Int × Int × Int × Int × Int × Unit) :=
 some (a0, a1, a2, a3, a4, a5, ())
noncomputable def laws_toQueue.ent : Entry := ⟨[false], [.agg [.val .bor (.int .i64), .val .bor (.int .i64), .val .bor (.int .i64), .val .bor (.int .i64), .val .bor (.int .i64), .val .bor (.int .i64)]], [.agg [.val .bor (.int .i64), .val .bor (.int .i64), .val .bor (.int .i64), .val .bor (.int .i64), .val .bor (.int .i64), .val .bor (.int .i64)]], [], fun v => laws_toQueue v.1 v.2.1 v.2.2.1 v.2.2.2.1 v.2.2.2.2.1 v.2.2.2.2.2.1⟩
theorem laws_toQueue.eq : ∀ v, evFn laws_toQueue.E f14 laws_toQueue.ent.ptrs laws_toQueue.ent.ins laws_toQueue.ent.rets laws_toQueue.ent.outs v = laws_toQueue.ent.f v := by intro v; kernel_rfl
theorem laws_toQueue.fok : ∀ q ∈ ([] : List (Nat × Entry)), EntryOK Pr q.1 q.2 := by intro q hq; simp at hq
theorem laws_toQueue.ls : loopsOf (bodyOf f14) = [] := by kernel_rfl
theorem laws_toQueue.ok : EntryOK Pr 14 laws_toQueue.ent :=
 entry_ok (E := laws_toQueue.E) (EnvOK.of dok laws_toQueue.fok) mixed (fn := f14) (by kernel_rfl) (by kernel_rfl) (by decide) laws_toQueue.ls (by intro l hl; simp at hl) laws_toQueue.eq
/-! ### loop.example/g00038/spec.MemFault -/
noncomputable def spec_MemFault.E : Env := ⟨D, [], [], []⟩
noncomputable def spec_MemFault (a0 : ByteArray) : Option (Int × Unit) :=
 let x1 : Int := (Int.tmod (a0.size : Int) 256)
 let b2 : Bool := (((a0.size : Int) == 0) || (x1 != 0))
 let b3 : Bool := decide ((a0.size : Int) > 65536)
 bif (!(!((a0.size : Int) == 0)) || (!((256 : Int) == 0))) then
  bif (b2 || b3) then
   some (1, ())
  else
   some (0, ())
 else none
noncomputable def spec_MemFault.ent : Entry := ⟨[false], [.cell (.val .bor (.str))], [.cell (.val .bor (.int .i64))], [], fun v => spec_MemFault v.1⟩
theorem spec_MemFault.eq : ∀ v, evFn spec_MemFault.E f65 spec_MemFault.ent.ptrs spec_MemFault.ent.ins spec_MemFault.ent.rets spec_MemFault.ent.outs v = spec_MemFault.ent.f v := by intro v; kernel_rfl
theorem spec_MemFault.fok : ∀ q ∈ ([] : List (Nat × Entry)), EntryOK Pr q.1 q.2 := by intro q hq; simp at hq
theorem spec_MemFault.ls : loopsOf (bodyOf f65) = [] := by kernel_rfl
theorem spec_MemFault.ok : EntryOK Pr 65 spec_MemFault.ent :=
 entry_ok (E := spec_MemFault.E) (EnvOK.of dok spec_MemFault.fok) mixed (fn := f65) (by kernel_rfl) (by kernel_rfl) (by decide) spec_MemFault.ls (by intro l hl; simp at hl) spec_MemFault.eq
/-! ### loop.example/g00038/spec.l01InInts -/
noncomputable def spec_l01InInts.E2 : Env := ⟨D, [], [], []⟩
noncomputable def spec_l01InInts_l2_step (rec : List Int → Int → Int → Option ((Bool × Unit) ⊕ (Unit))) (y0 : List Int) (y1 : Int) (y2 : Int) : Option ((Bool × Unit) ⊕ (Unit)) :=
 let b1 : Bool := decide (y2 < (y0.length : Int))
 bif b1 then
  let b2 : Bool := ((rd (.int .i64) y0 y2) == y1)
  bif decide (0 ≤ y2) && decide (y2 < (y0.length : Int)) then
   bif b2 then
    some (Sum.inl (true, ()))
   else
    rec y0 y1 (wrap64 (y2 + 1))
  else none
 else
  some (Sum.inr ())
noncomputable def spec_l01InInts_l2 : Nat → List Int → Int → Int → Option ((Bool × Unit) ⊕ (Unit))
 | 0 => fun _ _ _ => none
 | n + 1 => spec_l01InInts_l2_step (spec_l01InInts_l2 n)
noncomputable def spec_l01InInts_l2.ent : LEntry := ⟨(.cell (.val .bor (.slice (.int .i64))) :: (.cell (.val .bor (.int .i64)) :: (sk 3 (.cell (.val .bor (.int .i64)) :: (sk 12 []))))), rk 18 [], [], [], [⟨none, sk 4 (.cell (.val .bor (.bool)) :: (sk 13 [])), rk 18 [], [], []⟩, ⟨some 0, sk 18 [], rk 18 [], [], []⟩], fun v => spec_l01InInts_l2 K0 v.1 v.2.1 v.2.2.1⟩
theorem spec_l01InInts_l2.eq : ∀ rec v, evStep spec_l01InInts.E2 (bodyAt 2 f74) spec_l01InInts_l2.ent.ins spec_l01InInts_l2.ent.rts spec_l01InInts_l2.ent.hm spec_l01InInts_l2.ent.nl spec_l01InInts_l2.ent.xs rec v = spec_l01InInts_l2_step (fun c0 c1 c2 => rec (c0, c1, c2, ())) v.1 v.2.1 v.2.2.1 := by intro rec v; kernel_rfl
noncomputable def spec_l01InInts.E : Env := ⟨D, [], [], [(2, spec_l01InInts_l2.ent)]⟩
noncomputable def spec_l01InInts (a0 : List Int) (a1 : Int) : Option (Bool × Unit) :=
 (spec_l01InInts_l2 K0 a0 a1 0).bind fun o3 =>
 match o3 with
 | Sum.inl p4 =>
  some (p4.1, ())
 | Sum.inr p5 =>
  some (false, ())
noncomputable def spec_l01InInts.ent : Entry := ⟨[false, false], [.cell (.val .bor (.slice (.int .i64))), .cell (.val .bor (.int .i64))], [.cell (.val .bor (.bool))], [], fun v => spec_l01InInts v.1 v.2.1⟩
theorem spec_l01InInts.eq : ∀ v, evFn spec_l01InInts.E f74 spec_l01InInts.ent.ptrs spec_l01InInts.ent.ins spec_l01InInts.ent.rets spec_l01InInts.ent.outs v = spec_l01InInts.ent.f v := by intro v; kernel_rfl
theorem spec_l01InInts.fok : ∀ q ∈ ([] : List (Nat × Entry)), EntryOK Pr q.1 q.2 := by intro q hq; simp at hq
theorem spec_l01InInts_l2.it : ∀ n v, iter (evStep spec_l01InInts.E2 (bodyAt 2 f74) spec_l01InInts_l2.ent.ins spec_l01InInts_l2.ent.rts spec_l01InInts_l2.ent.hm spec_l01InInts_l2.ent.nl spec_l01InInts_l2.ent.xs) n v = spec_l01InInts_l2 n v.1 v.2.1 v.2.2.1 := by
 intro n
 induction n with
 | zero => intro v; rfl
 | succ n ih =>
  intro v
  show (evStep spec_l01InInts.E2 (bodyAt 2 f74) spec_l01InInts_l2.ent.ins spec_l01InInts_l2.ent.rts spec_l01InInts_l2.ent.hm spec_l01InInts_l2.ent.nl spec_l01InInts_l2.ent.xs) (iter (evStep spec_l01InInts.E2 (bodyAt 2 f74) spec_l01InInts_l2.ent.ins spec_l01InInts_l2.ent.rts spec_l01InInts_l2.ent.hm spec_l01InInts_l2.ent.nl spec_l01InInts_l2.ent.xs) n) v = _
  rw [spec_l01InInts_l2.eq, show (fun c0 c1 c2 => iter (evStep spec_l01InInts.E2 (bodyAt 2 f74) spec_l01InInts_l2.ent.ins spec_l01InInts_l2.ent.rts spec_l01InInts_l2.ent.hm spec_l01InInts_l2.ent.nl spec_l01InInts_l2.ent.xs) n (c0, c1, c2, ())) = spec_l01InInts_l2 n from by funext c0 c1 c2; exact ih _]
  rfl
theorem spec_l01InInts_l2.fr : firstRegion (bodyAt 2 f74) = 2 := by kernel_rfl
theorem spec_l01InInts_l2.ls : loopsOf (bodyAt 2 f74) = [] := by kernel_rfl
theorem spec_l01InInts_l2.lok {E : Env} (hpin : spec_l01InInts.E2.pin = E.pin) (hfind : find 2 E.loops = some spec_l01InInts_l2.ent) : LoopOK Pr E (bodyAt 2 f74) :=
 loop_of (E1 := spec_l01InInts.E2) (EnvOK.of dok spec_l01InInts.fok) mixed hpin (by rw [spec_l01InInts_l2.fr]; exact hfind) spec_l01InInts_l2.ls (by intro l hl; simp at hl) (fun v => (spec_l01InInts_l2.it K0 v).symm)
theorem spec_l01InInts.ls : loopsOf (bodyOf f74) = [bodyAt 2 f74] := by kernel_rfl
theorem spec_l01InInts.ok : EntryOK Pr 74 spec_l01InInts.ent :=
 entry_ok (E := spec_l01InInts.E) (EnvOK.of dok spec_l01InInts.fok) mixed (fn := f74) (by kernel_rfl) (by kernel_rfl) (by decide) spec_l01InInts.ls (by intro l hl; simp only [List.mem_singleton] at hl; subst hl; exact spec_l01InInts_l2.lok rfl rfl) spec_l01InInts.eq
/-! ### loop.example/g00038/spec.l10In -/
noncomputable def spec_l10In.E : Env := ⟨D, [], [], []⟩
noncomputable def spec_l10In (a0 : ByteArray) (a1 : Int) (a2 : Int) : Option (Bool × Unit) :=
 let b1 : Bool := (decide (a1 ≥ 0) && decide (a2 ≥ 0))
 let b2 : Bool := decide (a1 ≤ (a0.size : Int))
 let x3 : Int := (wrap64 ((a0.size : Int) - a1))
 let b4 : Bool := ((b1 && b2) && decide (a2 ≤ x3))
 some (b4, ())
noncomputable def spec_l10In.ent : Entry := ⟨[false, false, false], [.cell (.val .bor (.str)), .cell (.val .bor (.int .i64)), .cell (.val .bor (.int .i64))], [.cell (.val .bor (.bool))], [], fun v => spec_l10In v.1 v.2.1 v.2.2.1⟩
theorem spec_l10In.eq : ∀ v, evFn spec_l10In.E f66 spec_l10In.ent.ptrs spec_l10In.ent.ins spec_l10In.ent.rets spec_l10In.ent.outs v = spec_l10In.ent.f v := by intro v; kernel_rfl
theorem spec_l10In.fok : ∀ q ∈ ([] : List (Nat × Entry)), EntryOK Pr q.1 q.2 := by intro q hq; simp at hq
theorem spec_l10In.ls : loopsOf (bodyOf f66) = [] := by kernel_rfl
theorem spec_l10In.ok : EntryOK Pr 66 spec_l10In.ent :=
 entry_ok (E := spec_l10In.E) (EnvOK.of dok spec_l10In.fok) mixed (fn := f66) (by kernel_rfl) (by kernel_rfl) (by decide) spec_l10In.ls (by intro l hl; simp at hl) spec_l10In.eq
/-! ### loop.example/g00038/spec.QueueFault -/
noncomputable def spec_QueueFault.E : Env := ⟨D, [], [(65, spec_MemFault.ent), (74, spec_l01InInts.ent), (66, spec_l10In.ent)], []⟩
noncomputable def spec_QueueFault (a0 : ByteArray) (a1 : Int) (a2 : Int) (a3 : Int) (a4 : Int) (a5 : Int) (a6 : Int) : Option (Int × Unit) :=
 (spec_MemFault a0).bind fun r1 =>
 let l2 : List Int := ([1, 2, 4, 8, 16] : List Int)
 let r3 : Bool × Unit := (spec_l01InInts l2 a1).getD (false, ())
 let b4 : Bool := (((r1.1 != 0) || !r3.1) || decide (a5 < 0))
 let b5 : Bool := (b4 || decide (a5 > 65535))
 let b6 : Bool := ((b5 || decide (a6 < 0)) || decide (a6 > 65535))
 bif (!(!(r1.1 != 0)) || ((spec_l01InInts l2 a1).isSome)) then
  bif b6 then
   some (1, ())
  else
   let b7 : Bool := (((Int.tmod a2 4) != 0) || ((Int.tmod a3 4) != 0))
   let b8 : Bool := (b7 || ((Int.tmod a4 4) != 0))
   let x9 : Int := (wrap64 ((16 : Int) * a1))
   let r10 : Bool × Unit := (spec_l10In a0 a2 x9).getD (false, ())
   let x11 : Int := (wrap64 ((4 : Int) * a1))
   let x12 : Int := (wrap64 ((8 : Int) + x11))
   let r13 : Bool × Unit := (spec_l10In a0 a3 x12).getD (false, ())
   let b14 : Bool := ((b8 || !r10.1) || !r13.1)
   let x15 : Int := (wrap64 ((8 : Int) * a1))
   let x16 : Int := (wrap64 ((8 : Int) + x15))
   let r17 : Bool × Unit := (spec_l10In a0 a4 x16).getD (false, ())
   bif (!((4 : Int) == 0)) && ((!(!((Int.tmod a2 4) != 0)) || (!((4 : Int) == 0))) && ((!(!b7) || (!((4 : Int) == 0))) && ((!(!b8) || ((spec_l10In a0 a2 x9).isSome)) && ((!(!(b8 || !r10.1)) || ((spec_l10In a0 a3 x12).isSome)) && (!(!b14) || ((spec_l10In a0 a4 x16).isSome)))))) then
    bif (b14 || !r17.1) then
     some (1, ())
    else
     some (0, ())
   else none
 else none
noncomputable def spec_QueueFault.ent : Entry := ⟨[false, false], [.cell (.val .bor (.str)), .agg [.val .bor (.int .i64), .val .bor (.int .i64), .val .bor (.int .i64), .val .bor (.int .i64), .val .bor (.int .i64), .val .bor (.int .i64)]], [.cell (.val .bor (.int .i64))], [], fun v => spec_QueueFault v.1 v.2.1 v.2.2.1 v.2.2.2.1 v.2.2.2.2.1 v.2.2.2.2.2.1 v.2.2.2.2.2.2.1⟩
theorem spec_QueueFault.eq : ∀ v, evFn spec_QueueFault.E f39 spec_QueueFault.ent.ptrs spec_QueueFault.ent.ins spec_QueueFault.ent.rets spec_QueueFault.ent.outs v = spec_QueueFault.ent.f v := by intro v; kernel_rfl
theorem spec_QueueFault.fok : ∀ q ∈ [((65 : Nat), spec_MemFault.ent), ((74 : Nat), spec_l01InInts.ent), ((66 : Nat), spec_l10In.ent)], EntryOK Pr q.1 q.2 := by
 intro q hq
 simp only [List.mem_cons, List.mem_nil_iff, or_false] at hq
 rcases hq with rfl | rfl | rfl
 · exact spec_MemFault.ok
 · exact spec_l01InInts.ok
 · exact spec_l10In.ok
theorem spec_QueueFault.ls : loopsOf (bodyOf f39) = [] := by kernel_rfl
theorem spec_QueueFault.ok : EntryOK Pr 39 spec_QueueFault.ent :=
 entry_ok (E := spec_QueueFault.E) (EnvOK.of dok spec_QueueFault.fok) mixed (fn := f39) (by kernel_rfl) (by kernel_rfl) (by decide) spec_QueueFault.ls (by intro l hl; simp at hl) spec_QueueFault.eq
/-! ### loop.example/g00038/spec.l01Word -/
noncomputable def spec_l01Word.E : Env := ⟨D, [], [], []⟩
noncomputable def spec_l01Word (a0 : ByteArray) (a1 : Int) : Option (Int × Unit) :=
 let x1 : Int := (wrap64 (bt a0 (wrap64 (a1 + 1))))
 let x2 : Int := (wrap64 ((wrap64 (bt a0 a1)) + shl .i64 x1 8))
 let x3 : Int := (wrap64 (bt a0 (wrap64 (a1 + 2))))
 let x4 : Int := (wrap64 (x2 + shl .i64 x3 16))
 let x5 : Int := (wrap64 (bt a0 (wrap64 (a1 + 3))))
 let x6 : Int := (wrap64 (x4 + shl .i64 x5 24))
 bif (decide (0 ≤ a1) && decide (a1 < (a0.size : Int))) && ((decide (0 ≤ (wrap64 (a1 + 1))) && decide ((wrap64 (a1 + 1)) < (a0.size : Int))) && ((decide (0 ≤ (8 : Int))) && ((decide (0 ≤ (wrap64 (a1 + 2))) && decide ((wrap64 (a1 + 2)) < (a0.size : Int))) && ((decide (0 ≤ (16 : Int))) && ((decide (0 ≤ (wrap64 (a1 + 3))) && decide ((wrap64 (a1 + 3)) < (a0.size : Int))) && (decide (0 ≤ (24 : Int)))))))) then
  some (x6, ())
 else none
noncomputable def spec_l01Word.ent : Entry := ⟨[false, false], [.cell (.val .bor (.str)), .cell (.val .bor (.int .i64))], [.cell (.val .bor (.int .i64))], [], fun v => spec_l01Word v.1 v.2.1⟩
theorem spec_l01Word.eq : ∀ v, evFn spec_l01Word.E f52 spec_l01Word.ent.ptrs spec_l01Word.ent.ins spec_l01Word.ent.rets spec_l01Word.ent.outs v = spec_l01Word.ent.f v := by intro v; kernel_rfl
theorem spec_l01Word.fok : ∀ q ∈ ([] : List (Nat × Entry)), EntryOK Pr q.1 q.2 := by intro q hq; simp at hq
theorem spec_l01Word.ls : loopsOf (bodyOf f52) = [] := by kernel_rfl
theorem spec_l01Word.ok : EntryOK Pr 52 spec_l01Word.ent :=
 entry_ok (E := spec_l01Word.E) (EnvOK.of dok spec_l01Word.fok) mixed (fn := f52) (by kernel_rfl) (by kernel_rfl) (by decide) spec_l01Word.ls (by intro l hl; simp at hl) spec_l01Word.eq
/-! ### loop.example/g00038/spec.l01Mod -/
noncomputable def spec_l01Mod.E : Env := ⟨D, [], [], []⟩
noncomputable def spec_l01Mod (a0 : Int) (a1 : Int) : Option (Int × Unit) :=
 bif !(a1 == 0) then
  let b1 : Bool := decide ((Int.tmod a0 a1) < 0)
  let x2 : Int := (wrap64 ((Int.tmod a0 a1) + a1))
  let x3 : Int := (bif b1 then x2 else (Int.tmod a0 a1))
  some (x3, ())
 else none
noncomputable def spec_l01Mod.ent : Entry := ⟨[false, false], [.cell (.val .bor (.int .i64)), .cell (.val .bor (.int .i64))], [.cell (.val .bor (.int .i64))], [], fun v => spec_l01Mod v.1 v.2.1⟩
theorem spec_l01Mod.eq : ∀ v, evFn spec_l01Mod.E f62 spec_l01Mod.ent.ptrs spec_l01Mod.ent.ins spec_l01Mod.ent.rets spec_l01Mod.ent.outs v = spec_l01Mod.ent.f v := by intro v; kernel_rfl
theorem spec_l01Mod.fok : ∀ q ∈ ([] : List (Nat × Entry)), EntryOK Pr q.1 q.2 := by intro q hq; simp at hq
theorem spec_l01Mod.ls : loopsOf (bodyOf f62) = [] := by kernel_rfl
theorem spec_l01Mod.ok : EntryOK Pr 62 spec_l01Mod.ent :=
 entry_ok (E := spec_l01Mod.E) (EnvOK.of dok spec_l01Mod.fok) mixed (fn := f62) (by kernel_rfl) (by kernel_rfl) (by decide) spec_l01Mod.ls (by intro l hl; simp at hl) spec_l01Mod.eq
/-! ### loop.example/g00038/spec.l10Buf -/
noncomputable def spec_l10Buf.E : Env := ⟨D, [], [(66, spec_l10In.ent)], []⟩
noncomputable def spec_l10Buf (a0 : ByteArray) (a1 : List V1) (a2 : Int) (a3 : Int) (a4 : Bool) : Option (Int × Unit) :=
 (spec_l10In a0 a2 a3).bind fun r1 =>
 bif !r1.1 then
  some (2, ())
 else
  let b2 : Bool := decide ((a1.length : Int) > 0)
  let x3 : Int := (wrap64 ((a1.length : Int) - 1))
  let e4 : V1 := rd R1 a1 x3
  bif (!b2 || (decide (0 ≤ x3) && decide (x3 < (a1.length : Int)))) then
   bif ((b2 && e4.2.2) && !a4) then
    some (6, ())
   else
    some (0, ())
  else none
noncomputable def spec_l10Buf.ent : Entry := ⟨[false, false, false], [.cell (.val .bor (.str)), .cell (.val .bor (.slice R1)), .agg [.val .bor (.int .i64), .val .bor (.int .i64), .val .bor (.bool)]], [.cell (.val .bor (.int .i64))], [], fun v => spec_l10Buf v.1 v.2.1 v.2.2.1 v.2.2.2.1 v.2.2.2.2.1⟩
theorem spec_l10Buf.eq : ∀ v, evFn spec_l10Buf.E f67 spec_l10Buf.ent.ptrs spec_l10Buf.ent.ins spec_l10Buf.ent.rets spec_l10Buf.ent.outs v = spec_l10Buf.ent.f v := by intro v; kernel_rfl
theorem spec_l10Buf.fok : ∀ q ∈ [((66 : Nat), spec_l10In.ent)], EntryOK Pr q.1 q.2 := by
 intro q hq
 simp only [List.mem_cons, List.mem_nil_iff, or_false] at hq
 rcases hq with rfl
 · exact spec_l10In.ok
theorem spec_l10Buf.ls : loopsOf (bodyOf f67) = [] := by kernel_rfl
theorem spec_l10Buf.ok : EntryOK Pr 67 spec_l10Buf.ent :=
 entry_ok (E := spec_l10Buf.E) (EnvOK.of dok spec_l10Buf.fok) mixed (fn := f67) (by kernel_rfl) (by kernel_rfl) (by decide) spec_l10Buf.ls (by intro l hl; simp at hl) spec_l10Buf.eq
/-! ### loop.example/g00038/spec.ReadChain -/
noncomputable def spec_ReadChain.E11 : Env := ⟨D, [], [(39, spec_QueueFault.ent), (52, spec_l01Word.ent), (66, spec_l10In.ent), (67, spec_l10Buf.ent)], []⟩
noncomputable def spec_ReadChain_l11_step (rec : ByteArray → Int → Int → Bool → Int → Int → Int → Int → List V1 → Option ((Int × List V1 × Unit))) (y0 : ByteArray) (y1 : Int) (y2 : Int) (y3 : Bool) (y4 : Int) (y5 : Int) (y6 : Int) (y7 : Int) (y8 : List V1) : Option ((Int × List V1 × Unit)) :=
 let b25 : Bool := (decide (y4 < 0) || decide (y4 ≥ y2))
 bif b25 then
  some (5, [], ())
 else
  let b26 : Bool := decide ((wrap64 (y5 + 1)) > y2)
  bif b26 then
   some (9, [], ())
  else
   let x27 : Int := (wrap64 ((16 : Int) * y4))
   (spec_l01Word y0 (wrap64 (y1 + x27))).bind fun r28 =>
   let x29 : Int := (wrap64 ((wrap64 (y1 + x27)) + 4))
   (spec_l01Word y0 x29).bind fun r30 =>
   let x31 : Int := (wrap64 ((wrap64 (y1 + x27)) + 8))
   (spec_l01Word y0 x31).bind fun r32 =>
   let x33 : Int := (wrap64 ((wrap64 (y1 + x27)) + 12))
   (spec_l01Word y0 x33).bind fun r34 =>
   let b35 : Bool := ((bits .and .i64 r32.1 2) != 0)
   let b36 : Bool := ((bits .and .i64 r32.1 4) != 0)
   bif b36 then
    let b37 : Bool := ((bits .and .i64 r32.1 1) != 0)
    let b38 : Bool := ((Int.tmod r30.1 16) != 0)
    let b39 : Bool := (((y3 || b37) || b38) || decide (r30.1 < 16))
    let b40 : Bool := (b39 || decide (r30.1 > 256))
    let b41 : Bool := ((Int.tmod r28.1 4) != 0)
    bif (!(!(y3 || b37)) || (!((16 : Int) == 0))) && (!(!b40) || (!((4 : Int) == 0))) then
     bif (b40 || b41) then
      some (3, [], ())
     else
      (spec_l10In y0 r28.1 r30.1).bind fun r42 =>
      bif !r42.1 then
       some (2, [], ())
      else
       let x43 : Int := (wrap64 (Int.tdiv r30.1 16))
       bif !((16 : Int) == 0) then
        rec y0 r28.1 x43 true 0 0 y6 y7 y8
       else none
    else none
   else
    (spec_l10Buf y0 y8 r28.1 r30.1 b35).bind fun r44 =>
    bif (r44.1 != 0) then
     some (r44.1, [], ())
    else
     let l45 : List V1 := (y8 ++ [(r28.1, r30.1, b35)])
     bif roomy ((y8.length : Int) + ([(r28.1, r30.1, b35)].length : Int)) 24 then
      let b46 : Bool := ((bits .and .i64 r32.1 1) == 0)
      bif b46 then
       some (y7, l45, ())
      else
       rec y0 y1 y2 y3 r34.1 (wrap64 (y5 + 1)) y6 y7 l45
     else none
noncomputable def spec_ReadChain_l11 : Nat → ByteArray → Int → Int → Bool → Int → Int → Int → Int → List V1 → Option ((Int × List V1 × Unit))
 | 0 => fun _ _ _ _ _ _ _ _ _ => none
 | n + 1 => spec_ReadChain_l11_step (spec_ReadChain_l11 n)
noncomputable def spec_ReadChain_l11.ent : LEntry := ⟨(.cell (.val .bor (.str)) :: (sk 5 (.cell (.fix (.ptr 6 0)) :: (.cell (.fix (.ptr 7 0)) :: (.cell (.val .bor (.int .i64)) :: (.cell (.val .bor (.int .i64)) :: (.cell (.val .bor (.bool)) :: (.cell (.val .bor (.int .i64)) :: (.cell (.val .bor (.int .i64)) :: (sk 133 [])))))))))), rk 6 ([.val .bor (.int .i64), .fix (.nil)] :: ([.val .bor (.int .i64), .val .own (.slice R1)] :: (rk 138 []))), [], [(7, 1, true, .pair (.int .i64) (.pair (.int .i64) (.bool)))], [⟨none, sk 6 (.cell (.fix (.ptr 6 0)) :: (sk 139 [])), rk 6 ([.val .bor (.int .i64), .val .own (.slice R1)] :: (rk 139 [])), [], [(6, 1, true, .pair (.int .i64) (.pair (.int .i64) (.bool)))]⟩], fun v => spec_ReadChain_l11 K0 v.1 v.2.1 v.2.2.1 v.2.2.2.1 v.2.2.2.2.1 v.2.2.2.2.2.1 v.2.2.2.2.2.2.1 v.2.2.2.2.2.2.2.1 v.2.2.2.2.2.2.2.2.1⟩
theorem spec_ReadChain_l11.eq : ∀ rec v, evStep spec_ReadChain.E11 (bodyAt 11 f63) spec_ReadChain_l11.ent.ins spec_ReadChain_l11.ent.rts spec_ReadChain_l11.ent.hm spec_ReadChain_l11.ent.nl spec_ReadChain_l11.ent.xs rec v = spec_ReadChain_l11_step (fun c0 c1 c2 c3 c4 c5 c6 c7 c8 => rec (c0, c1, c2, c3, c4, c5, c6, c7, c8, ())) v.1 v.2.1 v.2.2.1 v.2.2.2.1 v.2.2.2.2.1 v.2.2.2.2.2.1 v.2.2.2.2.2.2.1 v.2.2.2.2.2.2.2.1 v.2.2.2.2.2.2.2.2.1 := by intro rec v; kernel_rfl
noncomputable def spec_ReadChain.E : Env := ⟨D, [], [(39, spec_QueueFault.ent), (52, spec_l01Word.ent), (66, spec_l10In.ent), (67, spec_l10Buf.ent)], [(11, spec_ReadChain_l11.ent)]⟩
noncomputable def spec_ReadChain (a0 : ByteArray) (a1 : Int) (a2 : Int) (a3 : Int) (a4 : Int) (a5 : Int) (a6 : Int) (a7 : Int) : Option (Int × List V1 × Unit) :=
 let b1 : Bool := decide ((a0.size : Int) > 65536)
 bif b1 then
  some (2, [], ())
 else
  (spec_QueueFault a0 a1 a2 a3 a4 a5 a6).bind fun r2 =>
  let b3 : Bool := ((r2.1 != 0) || decide (a7 < 0))
  bif (b3 || decide (a7 ≥ a1)) then
   some (1, [], ())
  else
   (spec_ReadChain_l11 K0 a0 a2 a1 false a7 0 0 0 []).bind fun o47 =>
   some (o47.1, o47.2.1, ())
noncomputable def spec_ReadChain.ent : Entry := ⟨[false, false, false], [.cell (.val .bor (.str)), .agg [.val .bor (.int .i64), .val .bor (.int .i64), .val .bor (.int .i64), .val .bor (.int .i64), .val .bor (.int .i64), .val .bor (.int .i64)], .cell (.val .bor (.int .i64))], [.agg [.val .bor (.int .i64), .val .own (.slice R1)]], [], fun v => spec_ReadChain v.1 v.2.1 v.2.2.1 v.2.2.2.1 v.2.2.2.2.1 v.2.2.2.2.2.1 v.2.2.2.2.2.2.1 v.2.2.2.2.2.2.2.1⟩
theorem spec_ReadChain.eq : ∀ v, evFn spec_ReadChain.E f63 spec_ReadChain.ent.ptrs spec_ReadChain.ent.ins spec_ReadChain.ent.rets spec_ReadChain.ent.outs v = spec_ReadChain.ent.f v := by intro v; kernel_rfl
theorem spec_ReadChain.fok : ∀ q ∈ [((39 : Nat), spec_QueueFault.ent), ((52 : Nat), spec_l01Word.ent), ((66 : Nat), spec_l10In.ent), ((67 : Nat), spec_l10Buf.ent)], EntryOK Pr q.1 q.2 := by
 intro q hq
 simp only [List.mem_cons, List.mem_nil_iff, or_false] at hq
 rcases hq with rfl | rfl | rfl | rfl
 · exact spec_QueueFault.ok
 · exact spec_l01Word.ok
 · exact spec_l10In.ok
 · exact spec_l10Buf.ok
theorem spec_ReadChain_l11.it : ∀ n v, iter (evStep spec_ReadChain.E11 (bodyAt 11 f63) spec_ReadChain_l11.ent.ins spec_ReadChain_l11.ent.rts spec_ReadChain_l11.ent.hm spec_ReadChain_l11.ent.nl spec_ReadChain_l11.ent.xs) n v = spec_ReadChain_l11 n v.1 v.2.1 v.2.2.1 v.2.2.2.1 v.2.2.2.2.1 v.2.2.2.2.2.1 v.2.2.2.2.2.2.1 v.2.2.2.2.2.2.2.1 v.2.2.2.2.2.2.2.2.1 := by
 intro n
 induction n with
 | zero => intro v; rfl
 | succ n ih =>
  intro v
  show (evStep spec_ReadChain.E11 (bodyAt 11 f63) spec_ReadChain_l11.ent.ins spec_ReadChain_l11.ent.rts spec_ReadChain_l11.ent.hm spec_ReadChain_l11.ent.nl spec_ReadChain_l11.ent.xs) (iter (evStep spec_ReadChain.E11 (bodyAt 11 f63) spec_ReadChain_l11.ent.ins spec_ReadChain_l11.ent.rts spec_ReadChain_l11.ent.hm spec_ReadChain_l11.ent.nl spec_ReadChain_l11.ent.xs) n) v = _
  rw [spec_ReadChain_l11.eq, show (fun c0 c1 c2 c3 c4 c5 c6 c7 c8 => iter (evStep spec_ReadChain.E11 (bodyAt 11 f63) spec_ReadChain_l11.ent.ins spec_ReadChain_l11.ent.rts spec_ReadChain_l11.ent.hm spec_ReadChain_l11.ent.nl spec_ReadChain_l11.ent.xs) n (c0, c1, c2, c3, c4, c5, c6, c7, c8, ())) = spec_ReadChain_l11 n from by funext c0 c1 c2 c3 c4 c5 c6 c7 c8; exact ih _]
  rfl
theorem spec_ReadChain_l11.fr : firstRegion (bodyAt 11 f63) = 11 := by kernel_rfl
theorem spec_ReadChain_l11.ls : loopsOf (bodyAt 11 f63) = [] := by kernel_rfl
theorem spec_ReadChain_l11.lok {E : Env} (hpin : spec_ReadChain.E11.pin = E.pin) (hfind : find 11 E.loops = some spec_ReadChain_l11.ent) : LoopOK Pr E (bodyAt 11 f63) :=
 loop_of (E1 := spec_ReadChain.E11) (EnvOK.of dok spec_ReadChain.fok) mixed hpin (by rw [spec_ReadChain_l11.fr]; exact hfind) spec_ReadChain_l11.ls (by intro l hl; simp at hl) (fun v => (spec_ReadChain_l11.it K0 v).symm)
theorem spec_ReadChain.ls : loopsOf (bodyOf f63) = [bodyAt 11 f63] := by kernel_rfl
theorem spec_ReadChain.ok : EntryOK Pr 63 spec_ReadChain.ent :=
 entry_ok (E := spec_ReadChain.E) (EnvOK.of dok spec_ReadChain.fok) mixed (fn := f63) (by kernel_rfl) (by kernel_rfl) (by decide) spec_ReadChain.ls (by intro l hl; simp only [List.mem_singleton] at hl; subst hl; exact spec_ReadChain_l11.lok rfl rfl) spec_ReadChain.eq
/-! ### loop.example/g00038/spec.TakeChain -/
noncomputable def spec_TakeChain.E : Env := ⟨D, [], [(39, spec_QueueFault.ent), (52, spec_l01Word.ent), (62, spec_l01Mod.ent), (63, spec_ReadChain.ent)], []⟩
noncomputable def spec_TakeChain (a0 : ByteArray) (a1 : Int) (a2 : Int) (a3 : Int) (a4 : Int) (a5 : Int) (a6 : Int) : Option (Int × Int × List V1 × Int × Int × Int × Int × Int × Int × Unit) :=
 let b1 : Bool := decide ((a0.size : Int) > 65536)
 bif b1 then
  some (2, 0, [], 0, 0, 0, 0, 0, 0, ())
 else
  (spec_QueueFault a0 a1 a2 a3 a4 a5 a6).bind fun r2 =>
  bif (r2.1 != 0) then
   some (1, 0, [], 0, 0, 0, 0, 0, 0, ())
  else
   (spec_l01Word a0 (wrap64 (a3 + 4))).bind fun r3 =>
   (spec_l01Mod (wrap64 (r3.1 - a5)) 65536).bind fun r4 =>
   bif (r4.1 == 0) then
    some (5, 0, [], 0, 0, 0, 0, 0, 0, ())
   else
   bif decide (r4.1 > a1) then
    some (8, 0, [], 0, 0, 0, 0, 0, 0, ())
   else
    let x5 : Int := (wrap64 ((4 : Int) * (Int.tmod a5 a1)))
    let x6 : Int := (wrap64 ((wrap64 (a3 + 8)) + x5))
    (spec_l01Word a0 x6).bind fun r7 =>
    bif !(a1 == 0) then
     (spec_ReadChain a0 a1 a2 a3 a4 a5 a6 r7.1).bind fun r8 =>
     let x9 : Int := (Int.tmod (wrap64 (a5 + 1)) 65536)
     bif !((65536 : Int) == 0) then
      some (r8.1, r7.1, r8.2.1, a1, a2, a3, a4, x9, a6, ())
     else none
    else none
noncomputable def spec_TakeChain.ent : Entry := ⟨[false, false], [.cell (.val .bor (.str)), .agg [.val .bor (.int .i64), .val .bor (.int .i64), .val .bor (.int .i64), .val .bor (.int .i64), .val .bor (.int .i64), .val .bor (.int .i64)]], [.agg [.val .bor (.int .i64), .val .bor (.int .i64), .val .own (.slice R1), .val .bor (.int .i64), .val .bor (.int .i64), .val .bor (.int .i64), .val .bor (.int .i64), .val .bor (.int .i64), .val .bor (.int .i64)]], [], fun v => spec_TakeChain v.1 v.2.1 v.2.2.1 v.2.2.2.1 v.2.2.2.2.1 v.2.2.2.2.2.1 v.2.2.2.2.2.2.1⟩
theorem spec_TakeChain.eq : ∀ v, evFn spec_TakeChain.E f23 spec_TakeChain.ent.ptrs spec_TakeChain.ent.ins spec_TakeChain.ent.rets spec_TakeChain.ent.outs v = spec_TakeChain.ent.f v := by intro v; kernel_rfl
theorem spec_TakeChain.fok : ∀ q ∈ [((39 : Nat), spec_QueueFault.ent), ((52 : Nat), spec_l01Word.ent), ((62 : Nat), spec_l01Mod.ent), ((63 : Nat), spec_ReadChain.ent)], EntryOK Pr q.1 q.2 := by
 intro q hq
 simp only [List.mem_cons, List.mem_nil_iff, or_false] at hq
 rcases hq with rfl | rfl | rfl | rfl
 · exact spec_QueueFault.ok
 · exact spec_l01Word.ok
 · exact spec_l01Mod.ok
 · exact spec_ReadChain.ok
theorem spec_TakeChain.ls : loopsOf (bodyOf f23) = [] := by kernel_rfl
theorem spec_TakeChain.ok : EntryOK Pr 23 spec_TakeChain.ent :=
 entry_ok (E := spec_TakeChain.E) (EnvOK.of dok spec_TakeChain.fok) mixed (fn := f23) (by kernel_rfl) (by kernel_rfl) (by decide) spec_TakeChain.ls (by intro l hl; simp at hl) spec_TakeChain.eq
/-! ### loop.example/g00038/spec.l11Room -/
noncomputable def spec_l11Room.E3 : Env := ⟨D, [], [], []⟩
noncomputable def spec_l11Room_l3_step (rec : List V1 → Int → Int → Option ((Int × Unit))) (y0 : List V1) (y1 : Int) (y2 : Int) : Option ((Int × Unit)) :=
 let b1 : Bool := decide (y2 < (y0.length : Int))
 bif b1 then
  let e2 : V1 := rd R1 y0 y2
  bif decide (0 ≤ y2) && decide (y2 < (y0.length : Int)) then
   let l3 : List V1 := (bif e2.2.2 then y0 else y0)
   let x4 : Int := (bif e2.2.2 then (wrap64 (y1 + e2.2.1)) else y1)
   let x5 : Int := (bif e2.2.2 then y2 else y2)
   bif (!e2.2.2 || (decide (0 ≤ y2) && decide (y2 < (y0.length : Int)))) then
    rec l3 x4 (wrap64 (x5 + 1))
   else none
  else none
 else
  some (y1, ())
noncomputable def spec_l11Room_l3 : Nat → List V1 → Int → Int → Option ((Int × Unit))
 | 0 => fun _ _ _ => none
 | n + 1 => spec_l11Room_l3_step (spec_l11Room_l3 n)
noncomputable def spec_l11Room_l3.ent : LEntry := ⟨(.cell (.val .bor (.slice R1)) :: (sk 2 (.cell (.val .bor (.int .i64)) :: (.cell (.val .bor (.int .i64)) :: (sk 19 []))))), rk 24 [], [], [], [⟨some 0, sk 3 (.cell (.val .bor (.int .i64)) :: (sk 20 [])), rk 24 [], [], []⟩], fun v => spec_l11Room_l3 K0 v.1 v.2.1 v.2.2.1⟩
theorem spec_l11Room_l3.eq : ∀ rec v, evStep spec_l11Room.E3 (bodyAt 3 f40) spec_l11Room_l3.ent.ins spec_l11Room_l3.ent.rts spec_l11Room_l3.ent.hm spec_l11Room_l3.ent.nl spec_l11Room_l3.ent.xs rec v = spec_l11Room_l3_step (fun c0 c1 c2 => rec (c0, c1, c2, ())) v.1 v.2.1 v.2.2.1 := by intro rec v; kernel_rfl
noncomputable def spec_l11Room.E : Env := ⟨D, [], [], [(3, spec_l11Room_l3.ent)]⟩
noncomputable def spec_l11Room (a0 : List V1) : Option (Int × Unit) :=
 (spec_l11Room_l3 K0 a0 0 0).bind fun o9 =>
 some (o9.1, ())
noncomputable def spec_l11Room.ent : Entry := ⟨[false], [.cell (.val .bor (.slice R1))], [.cell (.val .bor (.int .i64))], [], fun v => spec_l11Room v.1⟩
theorem spec_l11Room.eq : ∀ v, evFn spec_l11Room.E f40 spec_l11Room.ent.ptrs spec_l11Room.ent.ins spec_l11Room.ent.rets spec_l11Room.ent.outs v = spec_l11Room.ent.f v := by intro v; kernel_rfl
theorem spec_l11Room.fok : ∀ q ∈ ([] : List (Nat × Entry)), EntryOK Pr q.1 q.2 := by intro q hq; simp at hq
theorem spec_l11Room_l3.it : ∀ n v, iter (evStep spec_l11Room.E3 (bodyAt 3 f40) spec_l11Room_l3.ent.ins spec_l11Room_l3.ent.rts spec_l11Room_l3.ent.hm spec_l11Room_l3.ent.nl spec_l11Room_l3.ent.xs) n v = spec_l11Room_l3 n v.1 v.2.1 v.2.2.1 := by
 intro n
 induction n with
 | zero => intro v; rfl
 | succ n ih =>
  intro v
  show (evStep spec_l11Room.E3 (bodyAt 3 f40) spec_l11Room_l3.ent.ins spec_l11Room_l3.ent.rts spec_l11Room_l3.ent.hm spec_l11Room_l3.ent.nl spec_l11Room_l3.ent.xs) (iter (evStep spec_l11Room.E3 (bodyAt 3 f40) spec_l11Room_l3.ent.ins spec_l11Room_l3.ent.rts spec_l11Room_l3.ent.hm spec_l11Room_l3.ent.nl spec_l11Room_l3.ent.xs) n) v = _
  rw [spec_l11Room_l3.eq, show (fun c0 c1 c2 => iter (evStep spec_l11Room.E3 (bodyAt 3 f40) spec_l11Room_l3.ent.ins spec_l11Room_l3.ent.rts spec_l11Room_l3.ent.hm spec_l11Room_l3.ent.nl spec_l11Room_l3.ent.xs) n (c0, c1, c2, ())) = spec_l11Room_l3 n from by funext c0 c1 c2; exact ih _]
  rfl
theorem spec_l11Room_l3.fr : firstRegion (bodyAt 3 f40) = 3 := by kernel_rfl
theorem spec_l11Room_l3.ls : loopsOf (bodyAt 3 f40) = [] := by kernel_rfl
theorem spec_l11Room_l3.lok {E : Env} (hpin : spec_l11Room.E3.pin = E.pin) (hfind : find 3 E.loops = some spec_l11Room_l3.ent) : LoopOK Pr E (bodyAt 3 f40) :=
 loop_of (E1 := spec_l11Room.E3) (EnvOK.of dok spec_l11Room.fok) mixed hpin (by rw [spec_l11Room_l3.fr]; exact hfind) spec_l11Room_l3.ls (by intro l hl; simp at hl) (fun v => (spec_l11Room_l3.it K0 v).symm)
theorem spec_l11Room.ls : loopsOf (bodyOf f40) = [bodyAt 3 f40] := by kernel_rfl
theorem spec_l11Room.ok : EntryOK Pr 40 spec_l11Room.ent :=
 entry_ok (E := spec_l11Room.E) (EnvOK.of dok spec_l11Room.fok) mixed (fn := f40) (by kernel_rfl) (by kernel_rfl) (by decide) spec_l11Room.ls (by intro l hl; simp only [List.mem_singleton] at hl; subst hl; exact spec_l11Room_l3.lok rfl rfl) spec_l11Room.eq
/-! ### loop.example/g00038/spec.l10Bufs -/
noncomputable def spec_l10Bufs.E4 : Env := ⟨D, [], [(65, spec_MemFault.ent), (66, spec_l10In.ent)], []⟩
noncomputable def spec_l10Bufs_l4_step (rec : ByteArray → List V1 → Int → Option ((Bool × Unit) ⊕ (Unit))) (y0 : ByteArray) (y1 : List V1) (y2 : Int) : Option ((Bool × Unit) ⊕ (Unit)) :=
 let b3 : Bool := decide (y2 < (y1.length : Int))
 bif b3 then
  let e4 : V1 := rd R1 y1 y2
  (spec_l10In y0 e4.1 e4.2.1).bind fun r5 =>
  bif (decide (0 ≤ y2) && decide (y2 < (y1.length : Int))) && (decide (0 ≤ y2) && decide (y2 < (y1.length : Int))) then
   bif !r5.1 then
    some (Sum.inl (false, ()))
   else
    rec y0 y1 (wrap64 (y2 + 1))
  else none
 else
  some (Sum.inr ())
noncomputable def spec_l10Bufs_l4 : Nat → ByteArray → List V1 → Int → Option ((Bool × Unit) ⊕ (Unit))
 | 0 => fun _ _ _ => none
 | n + 1 => spec_l10Bufs_l4_step (spec_l10Bufs_l4 n)
noncomputable def spec_l10Bufs_l4.ent : LEntry := ⟨(.cell (.val .bor (.str)) :: (.cell (.val .bor (.slice R1)) :: (sk 3 (.cell (.val .bor (.int .i64)) :: (sk 27 []))))), rk 33 [], [], [], [⟨none, sk 4 (.cell (.val .bor (.bool)) :: (sk 28 [])), rk 33 [], [], []⟩, ⟨some 0, sk 33 [], rk 33 [], [], []⟩], fun v => spec_l10Bufs_l4 K0 v.1 v.2.1 v.2.2.1⟩
theorem spec_l10Bufs_l4.eq : ∀ rec v, evStep spec_l10Bufs.E4 (bodyAt 4 f64) spec_l10Bufs_l4.ent.ins spec_l10Bufs_l4.ent.rts spec_l10Bufs_l4.ent.hm spec_l10Bufs_l4.ent.nl spec_l10Bufs_l4.ent.xs rec v = spec_l10Bufs_l4_step (fun c0 c1 c2 => rec (c0, c1, c2, ())) v.1 v.2.1 v.2.2.1 := by intro rec v; kernel_rfl
noncomputable def spec_l10Bufs.E : Env := ⟨D, [], [(65, spec_MemFault.ent), (66, spec_l10In.ent)], [(4, spec_l10Bufs_l4.ent)]⟩
noncomputable def spec_l10Bufs (a0 : ByteArray) (a1 : List V1) : Option (Bool × Unit) :=
 (spec_MemFault a0).bind fun r1 =>
 let b2 : Bool := decide ((a1.length : Int) > 1000)
 bif ((r1.1 != 0) || b2) then
  some (false, ())
 else
  (spec_l10Bufs_l4 K0 a0 a1 0).bind fun o6 =>
  match o6 with
  | Sum.inl p7 =>
   some (p7.1, ())
  | Sum.inr p8 =>
   some (true, ())
noncomputable def spec_l10Bufs.ent : Entry := ⟨[false, false], [.cell (.val .bor (.str)), .cell (.val .bor (.slice R1))], [.cell (.val .bor (.bool))], [], fun v => spec_l10Bufs v.1 v.2.1⟩
theorem spec_l10Bufs.eq : ∀ v, evFn spec_l10Bufs.E f64 spec_l10Bufs.ent.ptrs spec_l10Bufs.ent.ins spec_l10Bufs.ent.rets spec_l10Bufs.ent.outs v = spec_l10Bufs.ent.f v := by intro v; kernel_rfl
theorem spec_l10Bufs.fok : ∀ q ∈ [((65 : Nat), spec_MemFault.ent), ((66 : Nat), spec_l10In.ent)], EntryOK Pr q.1 q.2 := by
 intro q hq
 simp only [List.mem_cons, List.mem_nil_iff, or_false] at hq
 rcases hq with rfl | rfl
 · exact spec_MemFault.ok
 · exact spec_l10In.ok
theorem spec_l10Bufs_l4.it : ∀ n v, iter (evStep spec_l10Bufs.E4 (bodyAt 4 f64) spec_l10Bufs_l4.ent.ins spec_l10Bufs_l4.ent.rts spec_l10Bufs_l4.ent.hm spec_l10Bufs_l4.ent.nl spec_l10Bufs_l4.ent.xs) n v = spec_l10Bufs_l4 n v.1 v.2.1 v.2.2.1 := by
 intro n
 induction n with
 | zero => intro v; rfl
 | succ n ih =>
  intro v
  show (evStep spec_l10Bufs.E4 (bodyAt 4 f64) spec_l10Bufs_l4.ent.ins spec_l10Bufs_l4.ent.rts spec_l10Bufs_l4.ent.hm spec_l10Bufs_l4.ent.nl spec_l10Bufs_l4.ent.xs) (iter (evStep spec_l10Bufs.E4 (bodyAt 4 f64) spec_l10Bufs_l4.ent.ins spec_l10Bufs_l4.ent.rts spec_l10Bufs_l4.ent.hm spec_l10Bufs_l4.ent.nl spec_l10Bufs_l4.ent.xs) n) v = _
  rw [spec_l10Bufs_l4.eq, show (fun c0 c1 c2 => iter (evStep spec_l10Bufs.E4 (bodyAt 4 f64) spec_l10Bufs_l4.ent.ins spec_l10Bufs_l4.ent.rts spec_l10Bufs_l4.ent.hm spec_l10Bufs_l4.ent.nl spec_l10Bufs_l4.ent.xs) n (c0, c1, c2, ())) = spec_l10Bufs_l4 n from by funext c0 c1 c2; exact ih _]
  rfl
theorem spec_l10Bufs_l4.fr : firstRegion (bodyAt 4 f64) = 4 := by kernel_rfl
theorem spec_l10Bufs_l4.ls : loopsOf (bodyAt 4 f64) = [] := by kernel_rfl
theorem spec_l10Bufs_l4.lok {E : Env} (hpin : spec_l10Bufs.E4.pin = E.pin) (hfind : find 4 E.loops = some spec_l10Bufs_l4.ent) : LoopOK Pr E (bodyAt 4 f64) :=
 loop_of (E1 := spec_l10Bufs.E4) (EnvOK.of dok spec_l10Bufs.fok) mixed hpin (by rw [spec_l10Bufs_l4.fr]; exact hfind) spec_l10Bufs_l4.ls (by intro l hl; simp at hl) (fun v => (spec_l10Bufs_l4.it K0 v).symm)
theorem spec_l10Bufs.ls : loopsOf (bodyOf f64) = [bodyAt 4 f64] := by kernel_rfl
theorem spec_l10Bufs.ok : EntryOK Pr 64 spec_l10Bufs.ent :=
 entry_ok (E := spec_l10Bufs.E) (EnvOK.of dok spec_l10Bufs.fok) mixed (fn := f64) (by kernel_rfl) (by kernel_rfl) (by decide) spec_l10Bufs.ls (by intro l hl; simp only [List.mem_singleton] at hl; subst hl; exact spec_l10Bufs_l4.lok rfl rfl) spec_l10Bufs.eq
/-! ### loop.example/g00038/spec.l01Min -/
noncomputable def spec_l01Min.E : Env := ⟨D, [], [], []⟩
noncomputable def spec_l01Min (a0 : Int) (a1 : Int) : Option (Int × Unit) :=
 bif decide (a0 < a1) then
  some (a0, ())
 else
  some (a1, ())
noncomputable def spec_l01Min.ent : Entry := ⟨[false, false], [.cell (.val .bor (.int .i64)), .cell (.val .bor (.int .i64))], [.cell (.val .bor (.int .i64))], [], fun v => spec_l01Min v.1 v.2.1⟩
theorem spec_l01Min.eq : ∀ v, evFn spec_l01Min.E f75 spec_l01Min.ent.ptrs spec_l01Min.ent.ins spec_l01Min.ent.rets spec_l01Min.ent.outs v = spec_l01Min.ent.f v := by intro v; kernel_rfl
theorem spec_l01Min.fok : ∀ q ∈ ([] : List (Nat × Entry)), EntryOK Pr q.1 q.2 := by intro q hq; simp at hq
theorem spec_l01Min.ls : loopsOf (bodyOf f75) = [] := by kernel_rfl
theorem spec_l01Min.ok : EntryOK Pr 75 spec_l01Min.ent :=
 entry_ok (E := spec_l01Min.E) (EnvOK.of dok spec_l01Min.fok) mixed (fn := f75) (by kernel_rfl) (by kernel_rfl) (by decide) spec_l01Min.ls (by intro l hl; simp at hl) spec_l01Min.eq
/-! ### loop.example/g00038/spec.SpreadBufs -/
noncomputable def spec_SpreadBufs.E4 : Env := ⟨D, [], [(64, spec_l10Bufs.ent), (75, spec_l01Min.ent)], []⟩
noncomputable def spec_SpreadBufs_l4_step (rec : ByteArray → List V1 → ByteArray → Int → Option ((ByteArray × Unit))) (y0 : ByteArray) (y1 : List V1) (y2 : ByteArray) (y3 : Int) : Option ((ByteArray × Unit)) :=
 let b3 : Bool := decide (y3 < (y1.length : Int))
 bif b3 then
  let e4 : V1 := rd R1 y1 y3
  bif decide (0 ≤ y3) && decide (y3 < (y1.length : Int)) then
   bif !e4.2.2 then
    rec y0 y1 y2 (wrap64 (y3 + 1))
   else
    (spec_l01Min e4.2.1 (y2.size : Int)).bind fun r5 =>
    bif decide (0 ≤ y3) && decide (y3 < (y1.length : Int)) then
     let s6 : ByteArray := ((y0.extract 0 e4.1.toNat) ++ (y2.extract 0 r5.1.toNat))
     let s7 : ByteArray := y0.extract (wrap64 (e4.1 + r5.1)).toNat y0.size
     bif (decide (0 ≤ y3) && decide (y3 < (y1.length : Int))) && ((decide (0 ≤ e4.1) && decide (e4.1 ≤ (y0.size : Int))) && ((decide (0 ≤ r5.1) && decide (r5.1 ≤ (y2.size : Int))) && ((joins (y0.extract 0 e4.1.toNat) (y2.extract 0 r5.1.toNat)) && ((decide (0 ≤ y3) && decide (y3 < (y1.length : Int))) && ((decide (0 ≤ (wrap64 (e4.1 + r5.1))) && decide ((wrap64 (e4.1 + r5.1)) ≤ (y0.size : Int))) && (joins s6 s7)))))) then
      let s8 : ByteArray := y2.extract r5.1.toNat y2.size
      bif decide (0 ≤ r5.1) && decide (r5.1 ≤ (y2.size : Int)) then
       rec (s6 ++ s7) y1 s8 (wrap64 (y3 + 1))
      else none
     else none
    else none
  else none
 else
  some (y0, ())
noncomputable def spec_SpreadBufs_l4 : Nat → ByteArray → List V1 → ByteArray → Int → Option ((ByteArray × Unit))
 | 0 => fun _ _ _ _ => none
 | n + 1 => spec_SpreadBufs_l4_step (spec_SpreadBufs_l4 n)
noncomputable def spec_SpreadBufs_l4.ent : LEntry := ⟨(.cell (.val .bor (.str)) :: (.cell (.val .bor (.slice R1)) :: (.cell (.val .bor (.str)) :: (sk 4 (.cell (.val .bor (.int .i64)) :: (sk 55 [])))))), rk 63 [], [], [], [⟨some 0, (.cell (.val .bor (.str)) :: (sk 62 [])), rk 63 [], [], []⟩], fun v => spec_SpreadBufs_l4 K0 v.1 v.2.1 v.2.2.1 v.2.2.2.1⟩
theorem spec_SpreadBufs_l4.eq : ∀ rec v, evStep spec_SpreadBufs.E4 (bodyAt 4 f42) spec_SpreadBufs_l4.ent.ins spec_SpreadBufs_l4.ent.rts spec_SpreadBufs_l4.ent.hm spec_SpreadBufs_l4.ent.nl spec_SpreadBufs_l4.ent.xs rec v = spec_SpreadBufs_l4_step (fun c0 c1 c2 c3 => rec (c0, c1, c2, c3, ())) v.1 v.2.1 v.2.2.1 v.2.2.2.1 := by intro rec v; kernel_rfl
noncomputable def spec_SpreadBufs.E : Env := ⟨D, [], [(64, spec_l10Bufs.ent), (75, spec_l01Min.ent)], [(4, spec_SpreadBufs_l4.ent)]⟩
noncomputable def spec_SpreadBufs (a0 : ByteArray) (a1 : List V1) (a2 : ByteArray) : Option (ByteArray × Unit) :=
 let b1 : Bool := decide ((a2.size : Int) > 65536)
 let r2 : Bool × Unit := (spec_l10Bufs a0 a1).getD (false, ())
 bif (!(!b1) || ((spec_l10Bufs a0 a1).isSome)) then
  bif (b1 || !r2.1) then
   some ((⟨#[]⟩ : ByteArray), ())
  else
   (spec_SpreadBufs_l4 K0 a0 a1 a2 0).bind fun o9 =>
   some (o9.1, ())
 else none
noncomputable def spec_SpreadBufs.ent : Entry := ⟨[false, false, false], [.cell (.val .bor (.str)), .cell (.val .bor (.slice R1)), .cell (.val .bor (.str))], [.cell (.val .bor (.str))], [], fun v => spec_SpreadBufs v.1 v.2.1 v.2.2.1⟩
theorem spec_SpreadBufs.eq : ∀ v, evFn spec_SpreadBufs.E f42 spec_SpreadBufs.ent.ptrs spec_SpreadBufs.ent.ins spec_SpreadBufs.ent.rets spec_SpreadBufs.ent.outs v = spec_SpreadBufs.ent.f v := by intro v; kernel_rfl
theorem spec_SpreadBufs.fok : ∀ q ∈ [((64 : Nat), spec_l10Bufs.ent), ((75 : Nat), spec_l01Min.ent)], EntryOK Pr q.1 q.2 := by
 intro q hq
 simp only [List.mem_cons, List.mem_nil_iff, or_false] at hq
 rcases hq with rfl | rfl
 · exact spec_l10Bufs.ok
 · exact spec_l01Min.ok
theorem spec_SpreadBufs_l4.it : ∀ n v, iter (evStep spec_SpreadBufs.E4 (bodyAt 4 f42) spec_SpreadBufs_l4.ent.ins spec_SpreadBufs_l4.ent.rts spec_SpreadBufs_l4.ent.hm spec_SpreadBufs_l4.ent.nl spec_SpreadBufs_l4.ent.xs) n v = spec_SpreadBufs_l4 n v.1 v.2.1 v.2.2.1 v.2.2.2.1 := by
 intro n
 induction n with
 | zero => intro v; rfl
 | succ n ih =>
  intro v
  show (evStep spec_SpreadBufs.E4 (bodyAt 4 f42) spec_SpreadBufs_l4.ent.ins spec_SpreadBufs_l4.ent.rts spec_SpreadBufs_l4.ent.hm spec_SpreadBufs_l4.ent.nl spec_SpreadBufs_l4.ent.xs) (iter (evStep spec_SpreadBufs.E4 (bodyAt 4 f42) spec_SpreadBufs_l4.ent.ins spec_SpreadBufs_l4.ent.rts spec_SpreadBufs_l4.ent.hm spec_SpreadBufs_l4.ent.nl spec_SpreadBufs_l4.ent.xs) n) v = _
  rw [spec_SpreadBufs_l4.eq, show (fun c0 c1 c2 c3 => iter (evStep spec_SpreadBufs.E4 (bodyAt 4 f42) spec_SpreadBufs_l4.ent.ins spec_SpreadBufs_l4.ent.rts spec_SpreadBufs_l4.ent.hm spec_SpreadBufs_l4.ent.nl spec_SpreadBufs_l4.ent.xs) n (c0, c1, c2, c3, ())) = spec_SpreadBufs_l4 n from by funext c0 c1 c2 c3; exact ih _]
  rfl
theorem spec_SpreadBufs_l4.fr : firstRegion (bodyAt 4 f42) = 4 := by kernel_rfl
theorem spec_SpreadBufs_l4.ls : loopsOf (bodyAt 4 f42) = [] := by kernel_rfl
theorem spec_SpreadBufs_l4.lok {E : Env} (hpin : spec_SpreadBufs.E4.pin = E.pin) (hfind : find 4 E.loops = some spec_SpreadBufs_l4.ent) : LoopOK Pr E (bodyAt 4 f42) :=
 loop_of (E1 := spec_SpreadBufs.E4) (EnvOK.of dok spec_SpreadBufs.fok) mixed hpin (by rw [spec_SpreadBufs_l4.fr]; exact hfind) spec_SpreadBufs_l4.ls (by intro l hl; simp at hl) (fun v => (spec_SpreadBufs_l4.it K0 v).symm)
theorem spec_SpreadBufs.ls : loopsOf (bodyOf f42) = [bodyAt 4 f42] := by kernel_rfl
theorem spec_SpreadBufs.ok : EntryOK Pr 42 spec_SpreadBufs.ent :=
 entry_ok (E := spec_SpreadBufs.E) (EnvOK.of dok spec_SpreadBufs.fok) mixed (fn := f42) (by kernel_rfl) (by kernel_rfl) (by decide) spec_SpreadBufs.ls (by intro l hl; simp only [List.mem_singleton] at hl; subst hl; exact spec_SpreadBufs_l4.lok rfl rfl) spec_SpreadBufs.eq
/-! ### loop.example/g00038/spec.l01IsWord -/
noncomputable def spec_l01IsWord.E : Env := ⟨D, [], [], []⟩
noncomputable def spec_l01IsWord (a0 : Int) : Option (Bool × Unit) :=
 let b1 : Bool := (decide (a0 ≥ 0) && decide (a0 < 4294967296))
 some (b1, ())
noncomputable def spec_l01IsWord.ent : Entry := ⟨[false], [.cell (.val .bor (.int .i64))], [.cell (.val .bor (.bool))], [], fun v => spec_l01IsWord v.1⟩
theorem spec_l01IsWord.eq : ∀ v, evFn spec_l01IsWord.E f50 spec_l01IsWord.ent.ptrs spec_l01IsWord.ent.ins spec_l01IsWord.ent.rets spec_l01IsWord.ent.outs v = spec_l01IsWord.ent.f v := by intro v; kernel_rfl
theorem spec_l01IsWord.fok : ∀ q ∈ ([] : List (Nat × Entry)), EntryOK Pr q.1 q.2 := by intro q hq; simp at hq
theorem spec_l01IsWord.ls : loopsOf (bodyOf f50) = [] := by kernel_rfl
theorem spec_l01IsWord.ok : EntryOK Pr 50 spec_l01IsWord.ent :=
 entry_ok (E := spec_l01IsWord.E) (EnvOK.of dok spec_l01IsWord.fok) mixed (fn := f50) (by kernel_rfl) (by kernel_rfl) (by decide) spec_l01IsWord.ls (by intro l hl; simp at hl) spec_l01IsWord.eq
/-! ### loop.example/g00038/spec.GetWord -/
noncomputable def spec_GetWord.E : Env := ⟨D, [], [(52, spec_l01Word.ent)], []⟩
noncomputable def spec_GetWord (a0 : ByteArray) (a1 : Int) : Option (Bool × Int × Unit) :=
 let b1 : Bool := decide ((a0.size : Int) > 65536)
 let x2 : Int := (wrap64 ((a0.size : Int) - 4))
 let b3 : Bool := ((b1 || decide (a1 < 0)) || decide (a1 > x2))
 bif b3 then
  some (false, 0, ())
 else
  (spec_l01Word a0 a1).bind fun r4 =>
  some (true, r4.1, ())
noncomputable def spec_GetWord.ent : Entry := ⟨[false, false], [.cell (.val .bor (.str)), .cell (.val .bor (.int .i64))], [.agg [.val .bor (.bool), .val .bor (.int .i64)]], [], fun v => spec_GetWord v.1 v.2.1⟩
theorem spec_GetWord.eq : ∀ v, evFn spec_GetWord.E f25 spec_GetWord.ent.ptrs spec_GetWord.ent.ins spec_GetWord.ent.rets spec_GetWord.ent.outs v = spec_GetWord.ent.f v := by intro v; kernel_rfl
theorem spec_GetWord.fok : ∀ q ∈ [((52 : Nat), spec_l01Word.ent)], EntryOK Pr q.1 q.2 := by
 intro q hq
 simp only [List.mem_cons, List.mem_nil_iff, or_false] at hq
 rcases hq with rfl
 · exact spec_l01Word.ok
theorem spec_GetWord.ls : loopsOf (bodyOf f25) = [] := by kernel_rfl
theorem spec_GetWord.ok : EntryOK Pr 25 spec_GetWord.ent :=
 entry_ok (E := spec_GetWord.E) (EnvOK.of dok spec_GetWord.fok) mixed (fn := f25) (by kernel_rfl) (by kernel_rfl) (by decide) spec_GetWord.ls (by intro l hl; simp at hl) spec_GetWord.eq
/-! ### loop.example/g00038/spec.Word -/
noncomputable def spec_Word.E : Env := ⟨D, [], [(62, spec_l01Mod.ent)], []⟩
noncomputable def spec_Word (a0 : Int) : Option (Int × Unit) :=
 (spec_l01Mod a0 4294967296).bind fun r1 =>
 some (r1.1, ())
noncomputable def spec_Word.ent : Entry := ⟨[false], [.cell (.val .bor (.int .i64))], [.cell (.val .bor (.int .i64))], [], fun v => spec_Word v.1⟩
theorem spec_Word.eq : ∀ v, evFn spec_Word.E f83 spec_Word.ent.ptrs spec_Word.ent.ins spec_Word.ent.rets spec_Word.ent.outs v = spec_Word.ent.f v := by intro v; kernel_rfl
theorem spec_Word.fok : ∀ q ∈ [((62 : Nat), spec_l01Mod.ent)], EntryOK Pr q.1 q.2 := by
 intro q hq
 simp only [List.mem_cons, List.mem_nil_iff, or_false] at hq
 rcases hq with rfl
 · exact spec_l01Mod.ok
theorem spec_Word.ls : loopsOf (bodyOf f83) = [] := by kernel_rfl
theorem spec_Word.ok : EntryOK Pr 83 spec_Word.ent :=
 entry_ok (E := spec_Word.E) (EnvOK.of dok spec_Word.fok) mixed (fn := f83) (by kernel_rfl) (by kernel_rfl) (by decide) spec_Word.ls (by intro l hl; simp at hl) spec_Word.eq
/-! ### loop.example/g00038/spec.PutWord -/
noncomputable def spec_PutWord.E : Env := ⟨D, [], [(83, spec_Word.ent)], []⟩
noncomputable def spec_PutWord (a0 : Int) : Option (ByteArray × Unit) :=
 (spec_Word a0).bind fun r1 =>
 let x2 : Int := (IntKind.u8.wrap (shr .i64 r1.1 8))
 let x3 : Int := (IntKind.u8.wrap (shr .i64 r1.1 16))
 let x4 : Int := (IntKind.u8.wrap (shr .i64 r1.1 24))
 let l5 : List Int := [(IntKind.u8.wrap (r1.1)), x2, x3, x4]
 bif (decide (0 ≤ (8 : Int))) && ((decide (0 ≤ (16 : Int))) && (decide (0 ≤ (24 : Int)))) then
  some (b2s l5, ())
 else none
noncomputable def spec_PutWord.ent : Entry := ⟨[false], [.cell (.val .bor (.int .i64))], [.cell (.val .bor (.str))], [], fun v => spec_PutWord v.1⟩
theorem spec_PutWord.eq : ∀ v, evFn spec_PutWord.E f49 spec_PutWord.ent.ptrs spec_PutWord.ent.ins spec_PutWord.ent.rets spec_PutWord.ent.outs v = spec_PutWord.ent.f v := by intro v; kernel_rfl
theorem spec_PutWord.fok : ∀ q ∈ [((83 : Nat), spec_Word.ent)], EntryOK Pr q.1 q.2 := by
 intro q hq
 simp only [List.mem_cons, List.mem_nil_iff, or_false] at hq
 rcases hq with rfl
 · exact spec_Word.ok
theorem spec_PutWord.ls : loopsOf (bodyOf f49) = [] := by kernel_rfl
theorem spec_PutWord.ok : EntryOK Pr 49 spec_PutWord.ent :=
 entry_ok (E := spec_PutWord.E) (EnvOK.of dok spec_PutWord.fok) mixed (fn := f49) (by kernel_rfl) (by kernel_rfl) (by decide) spec_PutWord.ls (by intro l hl; simp at hl) spec_PutWord.eq
/-! ### loop.example/g00038/spec.SetWord -/
noncomputable def spec_SetWord.E : Env := ⟨D, [], [(25, spec_GetWord.ent), (49, spec_PutWord.ent)], []⟩
noncomputable def spec_SetWord (a0 : ByteArray) (a1 : Int) (a2 : Int) : Option (ByteArray × Unit) :=
 (spec_GetWord a0 a1).bind fun r1 =>
 bif !r1.1 then
  some ((⟨#[]⟩ : ByteArray), ())
 else
  (spec_PutWord a2).bind fun r2 =>
  let s3 : ByteArray := ((a0.extract 0 a1.toNat) ++ r2.1)
  let s4 : ByteArray := a0.extract (wrap64 (a1 + 4)).toNat a0.size
  bif (decide (0 ≤ a1) && decide (a1 ≤ (a0.size : Int))) && ((joins (a0.extract 0 a1.toNat) r2.1) && ((decide (0 ≤ (wrap64 (a1 + 4))) && decide ((wrap64 (a1 + 4)) ≤ (a0.size : Int))) && (joins s3 s4))) then
   some ((s3 ++ s4), ())
  else none
noncomputable def spec_SetWord.ent : Entry := ⟨[false, false, false], [.cell (.val .bor (.str)), .cell (.val .bor (.int .i64)), .cell (.val .bor (.int .i64))], [.cell (.val .bor (.str))], [], fun v => spec_SetWord v.1 v.2.1 v.2.2.1⟩
theorem spec_SetWord.eq : ∀ v, evFn spec_SetWord.E f18 spec_SetWord.ent.ptrs spec_SetWord.ent.ins spec_SetWord.ent.rets spec_SetWord.ent.outs v = spec_SetWord.ent.f v := by intro v; kernel_rfl
theorem spec_SetWord.fok : ∀ q ∈ [((25 : Nat), spec_GetWord.ent), ((49 : Nat), spec_PutWord.ent)], EntryOK Pr q.1 q.2 := by
 intro q hq
 simp only [List.mem_cons, List.mem_nil_iff, or_false] at hq
 rcases hq with rfl | rfl
 · exact spec_GetWord.ok
 · exact spec_PutWord.ok
theorem spec_SetWord.ls : loopsOf (bodyOf f18) = [] := by kernel_rfl
theorem spec_SetWord.ok : EntryOK Pr 18 spec_SetWord.ent :=
 entry_ok (E := spec_SetWord.E) (EnvOK.of dok spec_SetWord.fok) mixed (fn := f18) (by kernel_rfl) (by kernel_rfl) (by decide) spec_SetWord.ls (by intro l hl; simp at hl) spec_SetWord.eq
/-! ### loop.example/g00038/spec.GiveChain -/
noncomputable def spec_GiveChain.E : Env := ⟨D, [], [(39, spec_QueueFault.ent), (50, spec_l01IsWord.ent), (18, spec_SetWord.ent), (52, spec_l01Word.ent)], []⟩
noncomputable def spec_GiveChain (a0 : ByteArray) (a1 : Int) (a2 : Int) (a3 : Int) (a4 : Int) (a5 : Int) (a6 : Int) (a7 : Int) (a8 : Int) : Option (Int × ByteArray × Int × Int × Int × Int × Int × Int × Bool × Unit) :=
 let b1 : Bool := decide ((a0.size : Int) > 65536)
 bif b1 then
  some (2, ByteArray.empty, 0, 0, 0, 0, 0, 0, false, ())
 else
  (spec_QueueFault a0 a1 a2 a3 a4 a5 a6).bind fun r2 =>
  let b3 : Bool := ((r2.1 != 0) || decide (a7 < 0))
  let r4 : Bool × Unit := (spec_l01IsWord a8).getD (false, ())
  let b5 : Bool := ((b3 || decide (a7 ≥ a1)) || !r4.1)
  bif (!(!(b3 || decide (a7 ≥ a1))) || ((spec_l01IsWord a8).isSome)) then
   bif b5 then
    some (1, ByteArray.empty, 0, 0, 0, 0, 0, 0, false, ())
   else
    let x6 : Int := (wrap64 ((8 : Int) * (Int.tmod a6 a1)))
    let x7 : Int := (wrap64 ((wrap64 (a4 + 8)) + x6))
    bif !(a1 == 0) then
     let x8 : Int := (Int.tmod (wrap64 (a6 + 1)) 65536)
     bif !((65536 : Int) == 0) then
      (spec_SetWord a0 x7 a7).bind fun r9 =>
      (spec_SetWord r9.1 (wrap64 (x7 + 4)) a8).bind fun r10 =>
      (spec_SetWord r10.1 (wrap64 (a4 + 4)) x8).bind fun r11 =>
      (spec_l01Word r11.1 a3).bind fun r12 =>
      let b13 : Bool := ((Int.tmod r12.1 2) == 0)
      bif !((2 : Int) == 0) then
       some (0, r11.1, a1, a2, a3, a4, a5, x8, b13, ())
      else none
     else none
    else none
  else none
noncomputable def spec_GiveChain.ent : Entry := ⟨[false, false, false, false], [.cell (.val .bor (.str)), .agg [.val .bor (.int .i64), .val .bor (.int .i64), .val .bor (.int .i64), .val .bor (.int .i64), .val .bor (.int .i64), .val .bor (.int .i64)], .cell (.val .bor (.int .i64)), .cell (.val .bor (.int .i64))], [.agg [.val .bor (.int .i64), .val .bor (.str), .val .bor (.int .i64), .val .bor (.int .i64), .val .bor (.int .i64), .val .bor (.int .i64), .val .bor (.int .i64), .val .bor (.int .i64), .val .bor (.bool)]], [], fun v => spec_GiveChain v.1 v.2.1 v.2.2.1 v.2.2.2.1 v.2.2.2.2.1 v.2.2.2.2.2.1 v.2.2.2.2.2.2.1 v.2.2.2.2.2.2.2.1 v.2.2.2.2.2.2.2.2.1⟩
theorem spec_GiveChain.eq : ∀ v, evFn spec_GiveChain.E f41 spec_GiveChain.ent.ptrs spec_GiveChain.ent.ins spec_GiveChain.ent.rets spec_GiveChain.ent.outs v = spec_GiveChain.ent.f v := by intro v; kernel_rfl
theorem spec_GiveChain.fok : ∀ q ∈ [((39 : Nat), spec_QueueFault.ent), ((50 : Nat), spec_l01IsWord.ent), ((18 : Nat), spec_SetWord.ent), ((52 : Nat), spec_l01Word.ent)], EntryOK Pr q.1 q.2 := by
 intro q hq
 simp only [List.mem_cons, List.mem_nil_iff, or_false] at hq
 rcases hq with rfl | rfl | rfl | rfl
 · exact spec_QueueFault.ok
 · exact spec_l01IsWord.ok
 · exact spec_SetWord.ok
 · exact spec_l01Word.ok
theorem spec_GiveChain.ls : loopsOf (bodyOf f41) = [] := by kernel_rfl
theorem spec_GiveChain.ok : EntryOK Pr 41 spec_GiveChain.ent :=
 entry_ok (E := spec_GiveChain.E) (EnvOK.of dok spec_GiveChain.fok) mixed (fn := f41) (by kernel_rfl) (by kernel_rfl) (by decide) spec_GiveChain.ls (by intro l hl; simp at hl) spec_GiveChain.eq
/-! ### loop.example/g00038/spec.ReceiveFrame -/
noncomputable def spec_ReceiveFrame.E : Env := ⟨D, [], [(39, spec_QueueFault.ent), (23, spec_TakeChain.ent), (40, spec_l11Room.ent), (42, spec_SpreadBufs.ent), (41, spec_GiveChain.ent)], []⟩
noncomputable def spec_ReceiveFrame (a0 : ByteArray) (a1 : Int) (a2 : Int) (a3 : Int) (a4 : Int) (a5 : Int) (a6 : Int) (a7 : ByteArray) : Option (Int × ByteArray × Int × Int × Int × Int × Int × Int × ByteArray × Int × Bool × Unit) :=
 let b1 : Bool := decide ((a7.size : Int) > 65536)
 let b2 : Bool := decide ((a0.size : Int) > 65536)
 bif (b1 || b2) then
  some (2, ByteArray.empty, 0, 0, 0, 0, 0, 0, ByteArray.empty, 0, false, ())
 else
  (spec_QueueFault a0 a1 a2 a3 a4 a5 a6).bind fun r3 =>
  let b4 : Bool := decide ((a7.size : Int) > 1500)
  bif ((r3.1 != 0) || b4) then
   some (1, ByteArray.empty, 0, 0, 0, 0, 0, 0, ByteArray.empty, 0, false, ())
  else
   (spec_TakeChain a0 a1 a2 a3 a4 a5 a6).bind fun r5 =>
   bif (r5.1 != 0) then
    some (r5.1, ByteArray.empty, 0, 0, 0, 0, 0, 0, ByteArray.empty, 0, false, ())
   else
    (spec_l11Room r5.2.2.1).bind fun r6 =>
    let b7 : Bool := decide (r6.1 < (a7.size : Int))
    bif b7 then
     some (4, ByteArray.empty, 0, 0, 0, 0, 0, 0, ByteArray.empty, 0, false, ())
    else
     (spec_SpreadBufs a0 r5.2.2.1 a7).bind fun r8 =>
     (spec_GiveChain r8.1 r5.2.2.2.1 r5.2.2.2.2.1 r5.2.2.2.2.2.1 r5.2.2.2.2.2.2.1 r5.2.2.2.2.2.2.2.1 r5.2.2.2.2.2.2.2.2.1 r5.2.1 (a7.size : Int)).bind fun r9 =>
     some (0, r9.2.1, r9.2.2.1, r9.2.2.2.1, r9.2.2.2.2.1, r9.2.2.2.2.2.1, r9.2.2.2.2.2.2.1, r9.2.2.2.2.2.2.2.1, ByteArray.empty, 1, r9.2.2.2.2.2.2.2.2.1, ())
noncomputable def spec_ReceiveFrame.ent : Entry := ⟨[false, false, false], [.cell (.val .bor (.str)), .agg [.val .bor (.int .i64), .val .bor (.int .i64), .val .bor (.int .i64), .val .bor (.int .i64), .val .bor (.int .i64), .val .bor (.int .i64)], .cell (.val .bor (.str))], [.agg [.val .bor (.int .i64), .val .bor (.str), .val .bor (.int .i64), .val .bor (.int .i64), .val .bor (.int .i64), .val .bor (.int .i64), .val .bor (.int .i64), .val .bor (.int .i64), .val .bor (.str), .val .bor (.int .i64), .val .bor (.bool)]], [], fun v => spec_ReceiveFrame v.1 v.2.1 v.2.2.1 v.2.2.2.1 v.2.2.2.2.1 v.2.2.2.2.2.1 v.2.2.2.2.2.2.1 v.2.2.2.2.2.2.2.1⟩
theorem spec_ReceiveFrame.eq : ∀ v, evFn spec_ReceiveFrame.E f13 spec_ReceiveFrame.ent.ptrs spec_ReceiveFrame.ent.ins spec_ReceiveFrame.ent.rets spec_ReceiveFrame.ent.outs v = spec_ReceiveFrame.ent.f v := by intro v; kernel_rfl
theorem spec_ReceiveFrame.fok : ∀ q ∈ [((39 : Nat), spec_QueueFault.ent), ((23 : Nat), spec_TakeChain.ent), ((40 : Nat), spec_l11Room.ent), ((42 : Nat), spec_SpreadBufs.ent), ((41 : Nat), spec_GiveChain.ent)], EntryOK Pr q.1 q.2 := by
 intro q hq
 simp only [List.mem_cons, List.mem_nil_iff, or_false] at hq
 rcases hq with rfl | rfl | rfl | rfl | rfl
 · exact spec_QueueFault.ok
 · exact spec_TakeChain.ok
 · exact spec_l11Room.ok
 · exact spec_SpreadBufs.ok
 · exact spec_GiveChain.ok
theorem spec_ReceiveFrame.ls : loopsOf (bodyOf f13) = [] := by kernel_rfl
theorem spec_ReceiveFrame.ok : EntryOK Pr 13 spec_ReceiveFrame.ent :=
 entry_ok (E := spec_ReceiveFrame.E) (EnvOK.of dok spec_ReceiveFrame.fok) mixed (fn := f13) (by kernel_rfl) (by kernel_rfl) (by decide) spec_ReceiveFrame.ls (by intro l hl; simp at hl) spec_ReceiveFrame.eq
/-! ### loop.example/g00038/impl.ybig -/
noncomputable def impl_ybig.E2 : Env := ⟨D, [], [], []⟩
noncomputable def impl_ybig_l2_step (rec : List ByteArray → Int → Int → Option ((Bool × Unit) ⊕ (Unit))) (y0 : List ByteArray) (y1 : Int) (y2 : Int) : Option ((Bool × Unit) ⊕ (Unit)) :=
 bif decide (y2 < y1) then
  bif decide (0 ≤ y2) && decide (y2 < (y0.length : Int)) then
   let b1 : Bool := decide (((rd (.str) y0 y2).size : Int) > 65536)
   bif b1 then
    some (Sum.inl (true, ()))
   else
    rec y0 y1 (wrap64 (y2 + 1))
  else none
 else
  some (Sum.inr ())
noncomputable def impl_ybig_l2 : Nat → List ByteArray → Int → Int → Option ((Bool × Unit) ⊕ (Unit))
 | 0 => fun _ _ _ => none
 | n + 1 => impl_ybig_l2_step (impl_ybig_l2 n)
noncomputable def impl_ybig_l2.ent : LEntry := ⟨sk 5 (.cell (.val .bor (.slice (.str))) :: (.cell (.val .bor (.int .i64)) :: (.cell (.val .bor (.int .i64)) :: (sk 7 [])))), rk 15 [], [], [], [⟨none, sk 2 (.cell (.val .bor (.bool)) :: (sk 12 [])), rk 15 [], [], []⟩, ⟨some 0, sk 15 [], rk 15 [], [], []⟩], fun v => impl_ybig_l2 K0 v.1 v.2.1 v.2.2.1⟩
theorem impl_ybig_l2.eq : ∀ rec v, evStep impl_ybig.E2 (bodyAt 2 f43) impl_ybig_l2.ent.ins impl_ybig_l2.ent.rts impl_ybig_l2.ent.hm impl_ybig_l2.ent.nl impl_ybig_l2.ent.xs rec v = impl_ybig_l2_step (fun c0 c1 c2 => rec (c0, c1, c2, ())) v.1 v.2.1 v.2.2.1 := by intro rec v; kernel_rfl
noncomputable def impl_ybig.E : Env := ⟨D, [], [], [(2, impl_ybig_l2.ent)]⟩
noncomputable def impl_ybig (a0 : List ByteArray) : Option (Bool × Unit) :=
 (impl_ybig_l2 K0 a0 (a0.length : Int) 0).bind fun o2 =>
 match o2 with
 | Sum.inl p3 =>
  some (p3.1, ())
 | Sum.inr p4 =>
  some (false, ())
noncomputable def impl_ybig.ent : Entry := ⟨[false], [.cell (.val .bor (.slice (.str)))], [.cell (.val .bor (.bool))], [], fun v => impl_ybig v.1⟩
theorem impl_ybig.eq : ∀ v, evFn impl_ybig.E f43 impl_ybig.ent.ptrs impl_ybig.ent.ins impl_ybig.ent.rets impl_ybig.ent.outs v = impl_ybig.ent.f v := by intro v; kernel_rfl
theorem impl_ybig.fok : ∀ q ∈ ([] : List (Nat × Entry)), EntryOK Pr q.1 q.2 := by intro q hq; simp at hq
theorem impl_ybig_l2.it : ∀ n v, iter (evStep impl_ybig.E2 (bodyAt 2 f43) impl_ybig_l2.ent.ins impl_ybig_l2.ent.rts impl_ybig_l2.ent.hm impl_ybig_l2.ent.nl impl_ybig_l2.ent.xs) n v = impl_ybig_l2 n v.1 v.2.1 v.2.2.1 := by
 intro n
 induction n with
 | zero => intro v; rfl
 | succ n ih =>
  intro v
  show (evStep impl_ybig.E2 (bodyAt 2 f43) impl_ybig_l2.ent.ins impl_ybig_l2.ent.rts impl_ybig_l2.ent.hm impl_ybig_l2.ent.nl impl_ybig_l2.ent.xs) (iter (evStep impl_ybig.E2 (bodyAt 2 f43) impl_ybig_l2.ent.ins impl_ybig_l2.ent.rts impl_ybig_l2.ent.hm impl_ybig_l2.ent.nl impl_ybig_l2.ent.xs) n) v = _
  rw [impl_ybig_l2.eq, show (fun c0 c1 c2 => iter (evStep impl_ybig.E2 (bodyAt 2 f43) impl_ybig_l2.ent.ins impl_ybig_l2.ent.rts impl_ybig_l2.ent.hm impl_ybig_l2.ent.nl impl_ybig_l2.ent.xs) n (c0, c1, c2, ())) = impl_ybig_l2 n from by funext c0 c1 c2; exact ih _]
  rfl
theorem impl_ybig_l2.fr : firstRegion (bodyAt 2 f43) = 2 := by kernel_rfl
theorem impl_ybig_l2.ls : loopsOf (bodyAt 2 f43) = [] := by kernel_rfl
theorem impl_ybig_l2.lok {E : Env} (hpin : impl_ybig.E2.pin = E.pin) (hfind : find 2 E.loops = some impl_ybig_l2.ent) : LoopOK Pr E (bodyAt 2 f43) :=
 loop_of (E1 := impl_ybig.E2) (EnvOK.of dok impl_ybig.fok) mixed hpin (by rw [impl_ybig_l2.fr]; exact hfind) impl_ybig_l2.ls (by intro l hl; simp at hl) (fun v => (impl_ybig_l2.it K0 v).symm)
theorem impl_ybig.ls : loopsOf (bodyOf f43) = [bodyAt 2 f43] := by kernel_rfl
theorem impl_ybig.ok : EntryOK Pr 43 impl_ybig.ent :=
 entry_ok (E := impl_ybig.E) (EnvOK.of dok impl_ybig.fok) mixed (fn := f43) (by kernel_rfl) (by kernel_rfl) (by decide) impl_ybig.ls (by intro l hl; simp only [List.mem_singleton] at hl; subst hl; exact impl_ybig_l2.lok rfl rfl) impl_ybig.eq
/-! ### loop.example/g00038/impl.ymemOk -/
noncomputable def impl_ymemOk.E : Env := ⟨D, [], [], []⟩
noncomputable def impl_ymemOk (a0 : ByteArray) : Option (Bool × Unit) :=
 let b1 : Bool := decide ((a0.size : Int) ≥ 256)
 let b2 : Bool := decide ((a0.size : Int) ≤ 65536)
 let x3 : Int := (Int.tmod (a0.size : Int) 256)
 let b4 : Bool := ((b1 && b2) && (x3 == 0))
 bif (!(b1 && b2) || (!((256 : Int) == 0))) then
  some (b4, ())
 else none
noncomputable def impl_ymemOk.ent : Entry := ⟨[false], [.cell (.val .bor (.str))], [.cell (.val .bor (.bool))], [], fun v => impl_ymemOk v.1⟩
theorem impl_ymemOk.eq : ∀ v, evFn impl_ymemOk.E f76 impl_ymemOk.ent.ptrs impl_ymemOk.ent.ins impl_ymemOk.ent.rets impl_ymemOk.ent.outs v = impl_ymemOk.ent.f v := by intro v; kernel_rfl
theorem impl_ymemOk.fok : ∀ q ∈ ([] : List (Nat × Entry)), EntryOK Pr q.1 q.2 := by intro q hq; simp at hq
theorem impl_ymemOk.ls : loopsOf (bodyOf f76) = [] := by kernel_rfl
theorem impl_ymemOk.ok : EntryOK Pr 76 impl_ymemOk.ent :=
 entry_ok (E := impl_ymemOk.E) (EnvOK.of dok impl_ymemOk.fok) mixed (fn := f76) (by kernel_rfl) (by kernel_rfl) (by decide) impl_ymemOk.ls (by intro l hl; simp at hl) impl_ymemOk.eq
/-! ### slices.Index[[]int64,int64] -/
noncomputable def slices_Index_int64.E2 : Env := ⟨D, [], [], []⟩
noncomputable def slices_Index_int64_l2_step (rec : List Int → Int → Int → Int → Option ((Int × Unit) ⊕ (Unit))) (y0 : List Int) (y1 : Int) (y2 : Int) (y3 : Int) : Option ((Int × Unit) ⊕ (Unit)) :=
 bif decide (y3 < y2) then
  let b1 : Bool := (y1 == (rd (.int .i64) y0 y3))
  bif decide (0 ≤ y3) && decide (y3 < (y0.length : Int)) then
   bif b1 then
    some (Sum.inl (y3, ()))
   else
    rec y0 y1 y2 (wrap64 (y3 + 1))
  else none
 else
  some (Sum.inr ())
noncomputable def slices_Index_int64_l2 : Nat → List Int → Int → Int → Int → Option ((Int × Unit) ⊕ (Unit))
 | 0 => fun _ _ _ _ => none
 | n + 1 => slices_Index_int64_l2_step (slices_Index_int64_l2 n)
noncomputable def slices_Index_int64_l2.ent : LEntry := ⟨(.cell (.val .bor (.slice (.int .i64))) :: (.cell (.val .bor (.int .i64)) :: (sk 5 (.cell (.val .bor (.int .i64)) :: (.cell (.val .bor (.int .i64)) :: (sk 10 [])))))), rk 19 [], [], [], [⟨none, sk 4 (.cell (.val .bor (.int .i64)) :: (sk 14 [])), rk 19 [], [], []⟩, ⟨some 0, sk 19 [], rk 19 [], [], []⟩], fun v => slices_Index_int64_l2 K0 v.1 v.2.1 v.2.2.1 v.2.2.2.1⟩
theorem slices_Index_int64_l2.eq : ∀ rec v, evStep slices_Index_int64.E2 (bodyAt 2 f91) slices_Index_int64_l2.ent.ins slices_Index_int64_l2.ent.rts slices_Index_int64_l2.ent.hm slices_Index_int64_l2.ent.nl slices_Index_int64_l2.ent.xs rec v = slices_Index_int64_l2_step (fun c0 c1 c2 c3 => rec (c0, c1, c2, c3, ())) v.1 v.2.1 v.2.2.1 v.2.2.2.1 := by intro rec v; kernel_rfl
noncomputable def slices_Index_int64.E : Env := ⟨D, [], [], [(2, slices_Index_int64_l2.ent)]⟩
noncomputable def slices_Index_int64 (a0 : List Int) (a1 : Int) : Option (Int × Unit) :=
 (slices_Index_int64_l2 K0 a0 a1 (a0.length : Int) 0).bind fun o2 =>
 match o2 with
 | Sum.inl p3 =>
  some (p3.1, ())
 | Sum.inr p4 =>
  some (-1, ())
noncomputable def slices_Index_int64.ent : Entry := ⟨[false, false], [.cell (.val .bor (.slice (.int .i64))), .cell (.val .bor (.int .i64))], [.cell (.val .bor (.int .i64))], [], fun v => slices_Index_int64 v.1 v.2.1⟩
theorem slices_Index_int64.eq : ∀ v, evFn slices_Index_int64.E f91 slices_Index_int64.ent.ptrs slices_Index_int64.ent.ins slices_Index_int64.ent.rets slices_Index_int64.ent.outs v = slices_Index_int64.ent.f v := by intro v; kernel_rfl
theorem slices_Index_int64.fok : ∀ q ∈ ([] : List (Nat × Entry)), EntryOK Pr q.1 q.2 := by intro q hq; simp at hq
theorem slices_Index_int64_l2.it : ∀ n v, iter (evStep slices_Index_int64.E2 (bodyAt 2 f91) slices_Index_int64_l2.ent.ins slices_Index_int64_l2.ent.rts slices_Index_int64_l2.ent.hm slices_Index_int64_l2.ent.nl slices_Index_int64_l2.ent.xs) n v = slices_Index_int64_l2 n v.1 v.2.1 v.2.2.1 v.2.2.2.1 := by
 intro n
 induction n with
 | zero => intro v; rfl
 | succ n ih =>
  intro v
  show (evStep slices_Index_int64.E2 (bodyAt 2 f91) slices_Index_int64_l2.ent.ins slices_Index_int64_l2.ent.rts slices_Index_int64_l2.ent.hm slices_Index_int64_l2.ent.nl slices_Index_int64_l2.ent.xs) (iter (evStep slices_Index_int64.E2 (bodyAt 2 f91) slices_Index_int64_l2.ent.ins slices_Index_int64_l2.ent.rts slices_Index_int64_l2.ent.hm slices_Index_int64_l2.ent.nl slices_Index_int64_l2.ent.xs) n) v = _
  rw [slices_Index_int64_l2.eq, show (fun c0 c1 c2 c3 => iter (evStep slices_Index_int64.E2 (bodyAt 2 f91) slices_Index_int64_l2.ent.ins slices_Index_int64_l2.ent.rts slices_Index_int64_l2.ent.hm slices_Index_int64_l2.ent.nl slices_Index_int64_l2.ent.xs) n (c0, c1, c2, c3, ())) = slices_Index_int64_l2 n from by funext c0 c1 c2 c3; exact ih _]
  rfl
theorem slices_Index_int64_l2.fr : firstRegion (bodyAt 2 f91) = 2 := by kernel_rfl
theorem slices_Index_int64_l2.ls : loopsOf (bodyAt 2 f91) = [] := by kernel_rfl
theorem slices_Index_int64_l2.lok {E : Env} (hpin : slices_Index_int64.E2.pin = E.pin) (hfind : find 2 E.loops = some slices_Index_int64_l2.ent) : LoopOK Pr E (bodyAt 2 f91) :=
 loop_of (E1 := slices_Index_int64.E2) (EnvOK.of dok slices_Index_int64.fok) mixed hpin (by rw [slices_Index_int64_l2.fr]; exact hfind) slices_Index_int64_l2.ls (by intro l hl; simp at hl) (fun v => (slices_Index_int64_l2.it K0 v).symm)
theorem slices_Index_int64.ls : loopsOf (bodyOf f91) = [bodyAt 2 f91] := by kernel_rfl
theorem slices_Index_int64.ok : EntryOK Pr 91 slices_Index_int64.ent :=
 entry_ok (E := slices_Index_int64.E) (EnvOK.of dok slices_Index_int64.fok) mixed (fn := f91) (by kernel_rfl) (by kernel_rfl) (by decide) slices_Index_int64.ls (by intro l hl; simp only [List.mem_singleton] at hl; subst hl; exact slices_Index_int64_l2.lok rfl rfl) slices_Index_int64.eq
/-! ### slices.Contains[[]int64,int64] -/
noncomputable def slices_Contains_int64.E : Env := ⟨D, [], [(91, slices_Index_int64.ent)], []⟩
noncomputable def slices_Contains_int64 (a0 : List Int) (a1 : Int) : Option (Bool × Unit) :=
 (slices_Index_int64 a0 a1).bind fun r1 =>
 some (decide (r1.1 ≥ 0), ())
noncomputable def slices_Contains_int64.ent : Entry := ⟨[false, false], [.cell (.val .bor (.slice (.int .i64))), .cell (.val .bor (.int .i64))], [.cell (.val .bor (.bool))], [], fun v => slices_Contains_int64 v.1 v.2.1⟩
theorem slices_Contains_int64.eq : ∀ v, evFn slices_Contains_int64.E f77 slices_Contains_int64.ent.ptrs slices_Contains_int64.ent.ins slices_Contains_int64.ent.rets slices_Contains_int64.ent.outs v = slices_Contains_int64.ent.f v := by intro v; kernel_rfl
theorem slices_Contains_int64.fok : ∀ q ∈ [((91 : Nat), slices_Index_int64.ent)], EntryOK Pr q.1 q.2 := by
 intro q hq
 simp only [List.mem_cons, List.mem_nil_iff, or_false] at hq
 rcases hq with rfl
 · exact slices_Index_int64.ok
theorem slices_Contains_int64.ls : loopsOf (bodyOf f77) = [] := by kernel_rfl
theorem slices_Contains_int64.ok : EntryOK Pr 77 slices_Contains_int64.ent :=
 entry_ok (E := slices_Contains_int64.E) (EnvOK.of dok slices_Contains_int64.fok) mixed (fn := f77) (by kernel_rfl) (by kernel_rfl) (by decide) slices_Contains_int64.ls (by intro l hl; simp at hl) slices_Contains_int64.eq
/-! ### loop.example/g00038/impl.yfits -/
noncomputable def impl_yfits.E : Env := ⟨D, [], [], []⟩
noncomputable def impl_yfits (a0 : Int) (a1 : Int) (a2 : Int) : Option (Bool × Unit) :=
 let b1 : Bool := (decide (a1 ≥ 0) && decide (a2 ≥ 0))
 let b2 : Bool := decide (a2 ≤ (wrap64 (a0 - a1)))
 let b3 : Bool := ((b1 && decide (a1 ≤ a0)) && b2)
 some (b3, ())
noncomputable def impl_yfits.ent : Entry := ⟨[false, false, false], [.cell (.val .bor (.int .i64)), .cell (.val .bor (.int .i64)), .cell (.val .bor (.int .i64))], [.cell (.val .bor (.bool))], [], fun v => impl_yfits v.1 v.2.1 v.2.2.1⟩
theorem impl_yfits.eq : ∀ v, evFn impl_yfits.E f87 impl_yfits.ent.ptrs impl_yfits.ent.ins impl_yfits.ent.rets impl_yfits.ent.outs v = impl_yfits.ent.f v := by intro v; kernel_rfl
theorem impl_yfits.fok : ∀ q ∈ ([] : List (Nat × Entry)), EntryOK Pr q.1 q.2 := by intro q hq; simp at hq
theorem impl_yfits.ls : loopsOf (bodyOf f87) = [] := by kernel_rfl
theorem impl_yfits.ok : EntryOK Pr 87 impl_yfits.ent :=
 entry_ok (E := impl_yfits.E) (EnvOK.of dok impl_yfits.fok) mixed (fn := f87) (by kernel_rfl) (by kernel_rfl) (by decide) impl_yfits.ls (by intro l hl; simp at hl) impl_yfits.eq
/-! ### loop.example/g00038/impl.yplace -/
noncomputable def impl_yplace.E : Env := ⟨D, [], [(87, impl_yfits.ent)], []⟩
noncomputable def impl_yplace (a0 : ByteArray) (a1 : Int) (a2 : Int) : Option (Bool × Unit) :=
 let r1 : Bool × Unit := (impl_yfits (a0.size : Int) a1 a2).getD (false, ())
 let b2 : Bool := (((Int.tmod a1 4) == 0) && r1.1)
 bif (!((4 : Int) == 0)) && (!((Int.tmod a1 4) == 0) || ((impl_yfits (a0.size : Int) a1 a2).isSome)) then
  some (b2, ())
 else none
noncomputable def impl_yplace.ent : Entry := ⟨[false, false, false], [.cell (.val .bor (.str)), .cell (.val .bor (.int .i64)), .cell (.val .bor (.int .i64))], [.cell (.val .bor (.bool))], [], fun v => impl_yplace v.1 v.2.1 v.2.2.1⟩
theorem impl_yplace.eq : ∀ v, evFn impl_yplace.E f78 impl_yplace.ent.ptrs impl_yplace.ent.ins impl_yplace.ent.rets impl_yplace.ent.outs v = impl_yplace.ent.f v := by intro v; kernel_rfl
theorem impl_yplace.fok : ∀ q ∈ [((87 : Nat), impl_yfits.ent)], EntryOK Pr q.1 q.2 := by
 intro q hq
 simp only [List.mem_cons, List.mem_nil_iff, or_false] at hq
 rcases hq with rfl
 · exact impl_yfits.ok
theorem impl_yplace.ls : loopsOf (bodyOf f78) = [] := by kernel_rfl
theorem impl_yplace.ok : EntryOK Pr 78 impl_yplace.ent :=
 entry_ok (E := impl_yplace.E) (EnvOK.of dok impl_yplace.fok) mixed (fn := f78) (by kernel_rfl) (by kernel_rfl) (by decide) impl_yplace.ls (by intro l hl; simp at hl) impl_yplace.eq
/-! ### loop.example/g00038/impl.yin -/
noncomputable def impl_yin.E : Env := ⟨D, [], [], []⟩
noncomputable def impl_yin (a0 : Int) (a1 : Int) (a2 : Int) : Option (Bool × Unit) :=
 let b1 : Bool := (decide (a0 ≥ a1) && decide (a0 ≤ a2))
 some (b1, ())
noncomputable def impl_yin.ent : Entry := ⟨[false, false, false], [.cell (.val .bor (.int .i64)), .cell (.val .bor (.int .i64)), .cell (.val .bor (.int .i64))], [.cell (.val .bor (.bool))], [], fun v => impl_yin v.1 v.2.1 v.2.2.1⟩
theorem impl_yin.eq : ∀ v, evFn impl_yin.E f79 impl_yin.ent.ptrs impl_yin.ent.ins impl_yin.ent.rets impl_yin.ent.outs v = impl_yin.ent.f v := by intro v; kernel_rfl
theorem impl_yin.fok : ∀ q ∈ ([] : List (Nat × Entry)), EntryOK Pr q.1 q.2 := by intro q hq; simp at hq
theorem impl_yin.ls : loopsOf (bodyOf f79) = [] := by kernel_rfl
theorem impl_yin.ok : EntryOK Pr 79 impl_yin.ent :=
 entry_ok (E := impl_yin.E) (EnvOK.of dok impl_yin.fok) mixed (fn := f79) (by kernel_rfl) (by kernel_rfl) (by decide) impl_yin.ls (by intro l hl; simp at hl) impl_yin.eq
/-! ### loop.example/g00038/impl.QueueFault -/
noncomputable def impl_QueueFault.E : Env := ⟨D, [], [(76, impl_ymemOk.ent), (77, slices_Contains_int64.ent), (78, impl_yplace.ent), (79, impl_yin.ent)], []⟩
noncomputable def impl_QueueFault (a0 : ByteArray) (a1 : Int) (a2 : Int) (a3 : Int) (a4 : Int) (a5 : Int) (a6 : Int) : Option (Int × Unit) :=
 (impl_ymemOk a0).bind fun r1 =>
 let l2 : List Int := ([1, 2, 4, 8, 16] : List Int)
 let r3 : Bool × Unit := (slices_Contains_int64 l2 a1).getD (false, ())
 let x4 : Int := (wrap64 ((16 : Int) * a1))
 let r5 : Bool × Unit := (impl_yplace a0 a2 x4).getD (false, ())
 let b6 : Bool := ((!r1.1 || !r3.1) || !r5.1)
 let x7 : Int := (wrap64 ((4 : Int) * a1))
 let x8 : Int := (wrap64 ((8 : Int) + x7))
 let r9 : Bool × Unit := (impl_yplace a0 a3 x8).getD (false, ())
 let x10 : Int := (wrap64 ((8 : Int) * a1))
 let x11 : Int := (wrap64 ((8 : Int) + x10))
 let r12 : Bool × Unit := (impl_yplace a0 a4 x11).getD (false, ())
 let b13 : Bool := ((b6 || !r9.1) || !r12.1)
 let r14 : Bool × Unit := (impl_yin a5 0 65535).getD (false, ())
 let r15 : Bool × Unit := (impl_yin a6 0 65535).getD (false, ())
 let b16 : Bool := ((b13 || !r14.1) || !r15.1)
 bif (!(!(!r1.1)) || ((slices_Contains_int64 l2 a1).isSome)) && ((!(!(!r1.1 || !r3.1)) || ((impl_yplace a0 a2 x4).isSome)) && ((!(!b6) || ((impl_yplace a0 a3 x8).isSome)) && ((!(!(b6 || !r9.1)) || ((impl_yplace a0 a4 x11).isSome)) && ((!(!b13) || ((impl_yin a5 0 65535).isSome)) && (!(!(b13 || !r14.1)) || ((impl_yin a6 0 65535).isSome)))))) then
  bif b16 then
   some (1, ())
  else
   some (0, ())
 else none
noncomputable def impl_QueueFault.ent : Entry := ⟨[false, false], [.cell (.val .bor (.str)), .agg [.val .bor (.int .i64), .val .bor (.int .i64), .val .bor (.int .i64), .val .bor (.int .i64), .val .bor (.int .i64), .val .bor (.int .i64)]], [.cell (.val .bor (.int .i64))], [], fun v => impl_QueueFault v.1 v.2.1 v.2.2.1 v.2.2.2.1 v.2.2.2.2.1 v.2.2.2.2.2.1 v.2.2.2.2.2.2.1⟩
theorem impl_QueueFault.eq : ∀ v, evFn impl_QueueFault.E f44 impl_QueueFault.ent.ptrs impl_QueueFault.ent.ins impl_QueueFault.ent.rets impl_QueueFault.ent.outs v = impl_QueueFault.ent.f v := by intro v; kernel_rfl
theorem impl_QueueFault.fok : ∀ q ∈ [((76 : Nat), impl_ymemOk.ent), ((77 : Nat), slices_Contains_int64.ent), ((78 : Nat), impl_yplace.ent), ((79 : Nat), impl_yin.ent)], EntryOK Pr q.1 q.2 := by
 intro q hq
 simp only [List.mem_cons, List.mem_nil_iff, or_false] at hq
 rcases hq with rfl | rfl | rfl | rfl
 · exact impl_ymemOk.ok
 · exact slices_Contains_int64.ok
 · exact impl_yplace.ok
 · exact impl_yin.ok
theorem impl_QueueFault.ls : loopsOf (bodyOf f44) = [] := by kernel_rfl
theorem impl_QueueFault.ok : EntryOK Pr 44 impl_QueueFault.ent :=
 entry_ok (E := impl_QueueFault.E) (EnvOK.of dok impl_QueueFault.fok) mixed (fn := f44) (by kernel_rfl) (by kernel_rfl) (by decide) impl_QueueFault.ls (by intro l hl; simp at hl) impl_QueueFault.eq
/-! ### loop.example/g00038/impl.ywordAt -/
noncomputable def impl_ywordAt.E : Env := ⟨D, [], [], []⟩
noncomputable def impl_ywordAt (a0 : ByteArray) (a1 : Int) : Option (Int × Unit) :=
 let x1 : Int := (wrap64 (bt a0 (wrap64 (a1 + 1))))
 let x2 : Int := (bits .or .i64 (wrap64 (bt a0 a1)) (shl .i64 x1 8))
 let x3 : Int := (wrap64 (bt a0 (wrap64 (a1 + 2))))
 let x4 : Int := (bits .or .i64 x2 (shl .i64 x3 16))
 let x5 : Int := (wrap64 (bt a0 (wrap64 (a1 + 3))))
 let x6 : Int := (bits .or .i64 x4 (shl .i64 x5 24))
 bif (decide (0 ≤ a1) && decide (a1 < (a0.size : Int))) && ((decide (0 ≤ (wrap64 (a1 + 1))) && decide ((wrap64 (a1 + 1)) < (a0.size : Int))) && ((decide (0 ≤ (8 : Int))) && ((decide (0 ≤ (wrap64 (a1 + 2))) && decide ((wrap64 (a1 + 2)) < (a0.size : Int))) && ((decide (0 ≤ (16 : Int))) && ((decide (0 ≤ (wrap64 (a1 + 3))) && decide ((wrap64 (a1 + 3)) < (a0.size : Int))) && (decide (0 ≤ (24 : Int)))))))) then
  some (x6, ())
 else none
noncomputable def impl_ywordAt.ent : Entry := ⟨[false, false], [.cell (.val .bor (.str)), .cell (.val .bor (.int .i64))], [.cell (.val .bor (.int .i64))], [], fun v => impl_ywordAt v.1 v.2.1⟩
theorem impl_ywordAt.eq : ∀ v, evFn impl_ywordAt.E f80 impl_ywordAt.ent.ptrs impl_ywordAt.ent.ins impl_ywordAt.ent.rets impl_ywordAt.ent.outs v = impl_ywordAt.ent.f v := by intro v; kernel_rfl
theorem impl_ywordAt.fok : ∀ q ∈ ([] : List (Nat × Entry)), EntryOK Pr q.1 q.2 := by intro q hq; simp at hq
theorem impl_ywordAt.ls : loopsOf (bodyOf f80) = [] := by kernel_rfl
theorem impl_ywordAt.ok : EntryOK Pr 80 impl_ywordAt.ent :=
 entry_ok (E := impl_ywordAt.E) (EnvOK.of dok impl_ywordAt.fok) mixed (fn := f80) (by kernel_rfl) (by kernel_rfl) (by decide) impl_ywordAt.ls (by intro l hl; simp at hl) impl_ywordAt.eq
/-! ### loop.example/g00038/impl.ymod -/
noncomputable def impl_ymod.E : Env := ⟨D, [], [], []⟩
noncomputable def impl_ymod (a0 : Int) (a1 : Int) : Option (Int × Unit) :=
 bif !(a1 == 0) then
  let b1 : Bool := decide ((Int.tmod a0 a1) < 0)
  let x2 : Int := (wrap64 ((Int.tmod a0 a1) + a1))
  let x3 : Int := (bif b1 then x2 else (Int.tmod a0 a1))
  some (x3, ())
 else none
noncomputable def impl_ymod.ent : Entry := ⟨[false, false], [.cell (.val .bor (.int .i64)), .cell (.val .bor (.int .i64))], [.cell (.val .bor (.int .i64))], [], fun v => impl_ymod v.1 v.2.1⟩
theorem impl_ymod.eq : ∀ v, evFn impl_ymod.E f81 impl_ymod.ent.ptrs impl_ymod.ent.ins impl_ymod.ent.rets impl_ymod.ent.outs v = impl_ymod.ent.f v := by intro v; kernel_rfl
theorem impl_ymod.fok : ∀ q ∈ ([] : List (Nat × Entry)), EntryOK Pr q.1 q.2 := by intro q hq; simp at hq
theorem impl_ymod.ls : loopsOf (bodyOf f81) = [] := by kernel_rfl
theorem impl_ymod.ok : EntryOK Pr 81 impl_ymod.ent :=
 entry_ok (E := impl_ymod.E) (EnvOK.of dok impl_ymod.fok) mixed (fn := f81) (by kernel_rfl) (by kernel_rfl) (by decide) impl_ymod.ls (by intro l hl; simp at hl) impl_ymod.eq
/-! ### loop.example/g00038/impl.yreadDesc -/
noncomputable def impl_yreadDesc.E3 : Env := ⟨D, [], [(80, impl_ywordAt.ent)], []⟩
noncomputable def impl_yreadDesc_l3_step (rec : ByteArray → Int → Int → Int → Int → Int → Int → Int → Int → Int → Int → Option ((Int × Int × Int × Int × Int × Int × Int × Int × Unit))) (y0 : ByteArray) (y1 : Int) (y2 : Int) (y3 : Int) (y4 : Int) (y5 : Int) (y6 : Int) (y7 : Int) (y8 : Int) (y9 : Int) (y10 : Int) : Option ((Int × Int × Int × Int × Int × Int × Int × Int × Unit)) :=
 bif decide (y2 < 4) then
  let x1 : Int := (wrap64 ((4 : Int) * y2))
  (impl_ywordAt y0 (wrap64 (y1 + x1))).bind fun r2 =>
  let x3 : Int := (bif (y2 == 0) then r2.1 else y7)
  let x4 : Int := (bif (y2 == 1) then r2.1 else y8)
  let x5 : Int := (bif (y2 == 2) then r2.1 else y9)
  let x6 : Int := (bif (y2 == 3) then r2.1 else y10)
  bif decide (0 ≤ y2) && decide (y2 < 4) then
   rec y0 y1 (wrap64 (y2 + 1)) y3 y4 y5 y6 x3 x4 x5 x6
  else none
 else
  some (y3, y4, y5, y6, y7, y8, y9, y10, ())
noncomputable def impl_yreadDesc_l3 : Nat → ByteArray → Int → Int → Int → Int → Int → Int → Int → Int → Int → Int → Option ((Int × Int × Int × Int × Int × Int × Int × Int × Unit))
 | 0 => fun _ _ _ _ _ _ _ _ _ _ _ => none
 | n + 1 => impl_yreadDesc_l3_step (impl_yreadDesc_l3 n)
noncomputable def impl_yreadDesc_l3.ent : LEntry := ⟨(.cell (.val .bor (.str)) :: (.cell (.val .bor (.int .i64)) :: (sk 2 (.cell (.fix (.ptr 4 0)) :: (.cell (.fix (.ptr 5 0)) :: (sk 1 (.cell (.val .bor (.int .i64)) :: (sk 12 [])))))))), rk 4 ([.val .bor (.int .i64), .val .bor (.int .i64), .val .bor (.int .i64), .val .bor (.int .i64)] :: ([.val .bor (.int .i64), .val .bor (.int .i64), .val .bor (.int .i64), .val .bor (.int .i64)] :: (rk 14 []))), [], [], [⟨some 0, sk 4 (.cell (.fix (.ptr 4 0)) :: (.cell (.fix (.ptr 5 0)) :: (sk 14 []))), rk 4 ([.val .bor (.int .i64), .val .bor (.int .i64), .val .bor (.int .i64), .val .bor (.int .i64)] :: ([.val .bor (.int .i64), .val .bor (.int .i64), .val .bor (.int .i64), .val .bor (.int .i64)] :: (rk 14 []))), [], []⟩], fun v => impl_yreadDesc_l3 K0 v.1 v.2.1 v.2.2.1 v.2.2.2.1 v.2.2.2.2.1 v.2.2.2.2.2.1 v.2.2.2.2.2.2.1 v.2.2.2.2.2.2.2.1 v.2.2.2.2.2.2.2.2.1 v.2.2.2.2.2.2.2.2.2.1 v.2.2.2.2.2.2.2.2.2.2.1⟩
theorem impl_yreadDesc_l3.eq : ∀ rec v, evStep impl_yreadDesc.E3 (bodyAt 3 f69) impl_yreadDesc_l3.ent.ins impl_yreadDesc_l3.ent.rts impl_yreadDesc_l3.ent.hm impl_yreadDesc_l3.ent.nl impl_yreadDesc_l3.ent.xs rec v = impl_yreadDesc_l3_step (fun c0 c1 c2 c3 c4 c5 c6 c7 c8 c9 c10 => rec (c0, c1, c2, c3, c4, c5, c6, c7, c8, c9, c10, ())) v.1 v.2.1 v.2.2.1 v.2.2.2.1 v.2.2.2.2.1 v.2.2.2.2.2.1 v.2.2.2.2.2.2.1 v.2.2.2.2.2.2.2.1 v.2.2.2.2.2.2.2.2.1 v.2.2.2.2.2.2.2.2.2.1 v.2.2.2.2.2.2.2.2.2.2.1 := by intro rec v; kernel_rfl
noncomputable def impl_yreadDesc.E : Env := ⟨D, [], [(80, impl_ywordAt.ent)], [(3, impl_yreadDesc_l3.ent)]⟩
noncomputable def impl_yreadDesc (a0 : ByteArray) (a1 : Int) : Option (Int × Int × Int × Int × Unit) :=
 (impl_yreadDesc_l3 K0 a0 a1 0 0 0 0 0 0 0 0 0).bind fun o7 =>
 some (o7.2.2.2.2.1, o7.2.2.2.2.2.1, o7.2.2.2.2.2.2.1, o7.2.2.2.2.2.2.2.1, ())
noncomputable def impl_yreadDesc.ent : Entry := ⟨[false, false], [.cell (.val .bor (.str)), .cell (.val .bor (.int .i64))], [.agg [.val .bor (.int .i64), .val .bor (.int .i64), .val .bor (.int .i64), .val .bor (.int .i64)]], [], fun v => impl_yreadDesc v.1 v.2.1⟩
theorem impl_yreadDesc.eq : ∀ v, evFn impl_yreadDesc.E f69 impl_yreadDesc.ent.ptrs impl_yreadDesc.ent.ins impl_yreadDesc.ent.rets impl_yreadDesc.ent.outs v = impl_yreadDesc.ent.f v := by intro v; kernel_rfl
theorem impl_yreadDesc.fok : ∀ q ∈ [((80 : Nat), impl_ywordAt.ent)], EntryOK Pr q.1 q.2 := by
 intro q hq
 simp only [List.mem_cons, List.mem_nil_iff, or_false] at hq
 rcases hq with rfl
 · exact impl_ywordAt.ok
theorem impl_yreadDesc_l3.it : ∀ n v, iter (evStep impl_yreadDesc.E3 (bodyAt 3 f69) impl_yreadDesc_l3.ent.ins impl_yreadDesc_l3.ent.rts impl_yreadDesc_l3.ent.hm impl_yreadDesc_l3.ent.nl impl_yreadDesc_l3.ent.xs) n v = impl_yreadDesc_l3 n v.1 v.2.1 v.2.2.1 v.2.2.2.1 v.2.2.2.2.1 v.2.2.2.2.2.1 v.2.2.2.2.2.2.1 v.2.2.2.2.2.2.2.1 v.2.2.2.2.2.2.2.2.1 v.2.2.2.2.2.2.2.2.2.1 v.2.2.2.2.2.2.2.2.2.2.1 := by
 intro n
 induction n with
 | zero => intro v; rfl
 | succ n ih =>
  intro v
  show (evStep impl_yreadDesc.E3 (bodyAt 3 f69) impl_yreadDesc_l3.ent.ins impl_yreadDesc_l3.ent.rts impl_yreadDesc_l3.ent.hm impl_yreadDesc_l3.ent.nl impl_yreadDesc_l3.ent.xs) (iter (evStep impl_yreadDesc.E3 (bodyAt 3 f69) impl_yreadDesc_l3.ent.ins impl_yreadDesc_l3.ent.rts impl_yreadDesc_l3.ent.hm impl_yreadDesc_l3.ent.nl impl_yreadDesc_l3.ent.xs) n) v = _
  rw [impl_yreadDesc_l3.eq, show (fun c0 c1 c2 c3 c4 c5 c6 c7 c8 c9 c10 => iter (evStep impl_yreadDesc.E3 (bodyAt 3 f69) impl_yreadDesc_l3.ent.ins impl_yreadDesc_l3.ent.rts impl_yreadDesc_l3.ent.hm impl_yreadDesc_l3.ent.nl impl_yreadDesc_l3.ent.xs) n (c0, c1, c2, c3, c4, c5, c6, c7, c8, c9, c10, ())) = impl_yreadDesc_l3 n from by funext c0 c1 c2 c3 c4 c5 c6 c7 c8 c9 c10; exact ih _]
  rfl
theorem impl_yreadDesc_l3.fr : firstRegion (bodyAt 3 f69) = 3 := by kernel_rfl
theorem impl_yreadDesc_l3.ls : loopsOf (bodyAt 3 f69) = [] := by kernel_rfl
theorem impl_yreadDesc_l3.lok {E : Env} (hpin : impl_yreadDesc.E3.pin = E.pin) (hfind : find 3 E.loops = some impl_yreadDesc_l3.ent) : LoopOK Pr E (bodyAt 3 f69) :=
 loop_of (E1 := impl_yreadDesc.E3) (EnvOK.of dok impl_yreadDesc.fok) mixed hpin (by rw [impl_yreadDesc_l3.fr]; exact hfind) impl_yreadDesc_l3.ls (by intro l hl; simp at hl) (fun v => (impl_yreadDesc_l3.it K0 v).symm)
theorem impl_yreadDesc.ls : loopsOf (bodyOf f69) = [bodyAt 3 f69] := by kernel_rfl
theorem impl_yreadDesc.ok : EntryOK Pr 69 impl_yreadDesc.ent :=
 entry_ok (E := impl_yreadDesc.E) (EnvOK.of dok impl_yreadDesc.fok) mixed (fn := f69) (by kernel_rfl) (by kernel_rfl) (by decide) impl_yreadDesc.ls (by intro l hl; simp only [List.mem_singleton] at hl; subst hl; exact impl_yreadDesc_l3.lok rfl rfl) impl_yreadDesc.eq
/-! ### (loop.example/g00038/impl.ydesc).has -/
noncomputable def impl_ydesc_has.E : Env := ⟨D, [], [], []⟩
noncomputable def impl_ydesc_has (a0 : Int) (a1 : Int) (a2 : Int) (a3 : Int) (a4 : Int) : Option (Bool × Unit) :=
 let b1 : Bool := ((bits .and .i64 a2 a4) != 0)
 some (b1, ())
noncomputable def impl_ydesc_has.ent : Entry := ⟨[false, false], [.agg [.val .bor (.int .i64), .val .bor (.int .i64), .val .bor (.int .i64), .val .bor (.int .i64)], .cell (.val .bor (.int .i64))], [.cell (.val .bor (.bool))], [], fun v => impl_ydesc_has v.1 v.2.1 v.2.2.1 v.2.2.2.1 v.2.2.2.2.1⟩
theorem impl_ydesc_has.eq : ∀ v, evFn impl_ydesc_has.E f70 impl_ydesc_has.ent.ptrs impl_ydesc_has.ent.ins impl_ydesc_has.ent.rets impl_ydesc_has.ent.outs v = impl_ydesc_has.ent.f v := by intro v; kernel_rfl
theorem impl_ydesc_has.fok : ∀ q ∈ ([] : List (Nat × Entry)), EntryOK Pr q.1 q.2 := by intro q hq; simp at hq
theorem impl_ydesc_has.ls : loopsOf (bodyOf f70) = [] := by kernel_rfl
theorem impl_ydesc_has.ok : EntryOK Pr 70 impl_ydesc_has.ent :=
 entry_ok (E := impl_ydesc_has.E) (EnvOK.of dok impl_ydesc_has.fok) mixed (fn := f70) (by kernel_rfl) (by kernel_rfl) (by decide) impl_ydesc_has.ls (by intro l hl; simp at hl) impl_ydesc_has.eq
/-! ### (loop.example/g00038/impl.ydesc).buf -/
noncomputable def impl_ydesc_buf.E : Env := ⟨D, [], [(70, impl_ydesc_has.ent)], []⟩
noncomputable def impl_ydesc_buf (a0 : Int) (a1 : Int) (a2 : Int) (a3 : Int) : Option (Int × Int × Bool × Unit) :=
 (impl_ydesc_has a0 a1 a2 a3 2).bind fun r1 =>
 some (a0, a1, r1.1, ())
noncomputable def impl_ydesc_buf.ent : Entry := ⟨[false], [.agg [.val .bor (.int .i64), .val .bor (.int .i64), .val .bor (.int .i64), .val .bor (.int .i64)]], [.agg [.val .bor (.int .i64), .val .bor (.int .i64), .val .bor (.bool)]], [], fun v => impl_ydesc_buf v.1 v.2.1 v.2.2.1 v.2.2.2.1⟩
theorem impl_ydesc_buf.eq : ∀ v, evFn impl_ydesc_buf.E f88 impl_ydesc_buf.ent.ptrs impl_ydesc_buf.ent.ins impl_ydesc_buf.ent.rets impl_ydesc_buf.ent.outs v = impl_ydesc_buf.ent.f v := by intro v; kernel_rfl
theorem impl_ydesc_buf.fok : ∀ q ∈ [((70 : Nat), impl_ydesc_has.ent)], EntryOK Pr q.1 q.2 := by
 intro q hq
 simp only [List.mem_cons, List.mem_nil_iff, or_false] at hq
 rcases hq with rfl
 · exact impl_ydesc_has.ok
theorem impl_ydesc_buf.ls : loopsOf (bodyOf f88) = [] := by kernel_rfl
theorem impl_ydesc_buf.ok : EntryOK Pr 88 impl_ydesc_buf.ent :=
 entry_ok (E := impl_ydesc_buf.E) (EnvOK.of dok impl_ydesc_buf.fok) mixed (fn := f88) (by kernel_rfl) (by kernel_rfl) (by decide) impl_ydesc_buf.ls (by intro l hl; simp at hl) impl_ydesc_buf.eq
/-! ### loop.example/g00038/impl.yadd -/
noncomputable def impl_yadd_v4.E : Env := ⟨D, [], [(87, impl_yfits.ent), (70, impl_ydesc_has.ent), (88, impl_ydesc_buf.ent)], []⟩
noncomputable def impl_yadd_v4 (a0 : ByteArray) (a1 : List V1) (a2 : Int) (a3 : Int) (a4 : Int) (a5 : Int) : Option (List V1 × Int × Unit) :=
 (impl_yfits (a0.size : Int) a2 a3).bind fun r1 =>
 bif !r1.1 then
  some ([], 2, ())
 else
  let b2 : Bool := decide ((a1.length : Int) > 0)
  let x3 : Int := (wrap64 ((a1.length : Int) - 1))
  let e4 : V1 := rd R1 a1 x3
  let r5 : Bool × Unit := (impl_ydesc_has a2 a3 a4 a5 2).getD (false, ())
  let b6 : Bool := ((b2 && e4.2.2) && !r5.1)
  bif (!b2 || (decide (0 ≤ x3) && decide (x3 < (a1.length : Int)))) && (!(b2 && e4.2.2) || ((impl_ydesc_has a2 a3 a4 a5 2).isSome)) then
   bif b6 then
    some ([], 6, ())
   else
    (impl_ydesc_buf a2 a3 a4 a5).bind fun r7 =>
    let l8 : List V1 := [(r7.1, r7.2.1, r7.2.2.1)]
    bif roomy ((a1.length : Int) + (l8.length : Int)) 24 then
     some ((a1 ++ l8), 0, ())
    else none
  else none
noncomputable def impl_yadd_v4.ent : Entry := ⟨[false, false, false], [.cell (.val .bor (.str)), .cell (.val .own (.slice R1)), .agg [.val .bor (.int .i64), .val .bor (.int .i64), .val .bor (.int .i64), .val .bor (.int .i64)]], [.cell (.val .own (.slice R1)), .cell (.val .bor (.int .i64))], [], fun v => impl_yadd_v4 v.1 v.2.1 v.2.2.1 v.2.2.2.1 v.2.2.2.2.1 v.2.2.2.2.2.1⟩
theorem impl_yadd_v4.eq : ∀ v, evFn impl_yadd_v4.E f71 impl_yadd_v4.ent.ptrs impl_yadd_v4.ent.ins impl_yadd_v4.ent.rets impl_yadd_v4.ent.outs v = impl_yadd_v4.ent.f v := by intro v; kernel_rfl
theorem impl_yadd_v4.fok : ∀ q ∈ [((87 : Nat), impl_yfits.ent), ((70 : Nat), impl_ydesc_has.ent), ((88 : Nat), impl_ydesc_buf.ent)], EntryOK Pr q.1 q.2 := by
 intro q hq
 simp only [List.mem_cons, List.mem_nil_iff, or_false] at hq
 rcases hq with rfl | rfl | rfl
 · exact impl_yfits.ok
 · exact impl_ydesc_has.ok
 · exact impl_ydesc_buf.ok
theorem impl_yadd_v4.ls : loopsOf (bodyOf f71) = [] := by kernel_rfl
theorem impl_yadd_v4.ok : EntryOK Pr 71 impl_yadd_v4.ent :=
 entry_ok (E := impl_yadd_v4.E) (EnvOK.of dok impl_yadd_v4.fok) mixed (fn := f71) (by kernel_rfl) (by kernel_rfl) (by decide) impl_yadd_v4.ls (by intro l hl; simp at hl) impl_yadd_v4.eq
/-! ### loop.example/g00038/impl.yreadChain -/
noncomputable def impl_yreadChain.E6 : Env := ⟨D, [], [(79, impl_yin.ent), (69, impl_yreadDesc.ent), (70, impl_ydesc_has.ent), (87, impl_yfits.ent), (71, impl_yadd_v4.ent)], []⟩
noncomputable def impl_yreadChain_l6_step (rec : ByteArray → Int → Int → Int → Int → Bool → Int → List V1 → Option ((Int × List V1 × Unit))) (y0 : ByteArray) (y1 : Int) (y2 : Int) (y3 : Int) (y4 : Int) (y5 : Bool) (y6 : Int) (y7 : List V1) : Option ((Int × List V1 × Unit)) :=
 bif decide (y3 ≥ y2) then
  some (5, [], ())
 else
  let b15 : Bool := decide ((wrap64 (y4 + 1)) > y2)
  bif b15 then
   some (9, [], ())
  else
   let x16 : Int := (wrap64 ((16 : Int) * y3))
   (impl_yreadDesc y0 (wrap64 (y1 + x16))).bind fun r17 =>
   (impl_ydesc_has r17.1 r17.2.1 r17.2.2.1 r17.2.2.2.1 4).bind fun r18 =>
   bif r18.1 then
    let r19 : Bool × Unit := (impl_ydesc_has r17.1 r17.2.1 r17.2.2.1 r17.2.2.2.1 1).getD (false, ())
    let b20 : Bool := ((Int.tmod r17.2.1 16) != 0)
    let r21 : Bool × Unit := (impl_yin r17.2.1 16 256).getD (false, ())
    let b22 : Bool := (((y5 || r19.1) || b20) || !r21.1)
    let b23 : Bool := ((Int.tmod r17.1 4) != 0)
    bif (!(!y5) || ((impl_ydesc_has r17.1 r17.2.1 r17.2.2.1 r17.2.2.2.1 1).isSome)) && ((!(!(y5 || r19.1)) || (!((16 : Int) == 0))) && ((!(!((y5 || r19.1) || b20)) || ((impl_yin r17.2.1 16 256).isSome)) && (!(!b22) || (!((4 : Int) == 0))))) then
     bif (b22 || b23) then
      some (3, [], ())
     else
      (impl_yfits (y0.size : Int) r17.1 r17.2.1).bind fun r24 =>
      bif !r24.1 then
       some (2, [], ())
      else
       let x25 : Int := (wrap64 (Int.tdiv r17.2.1 16))
       bif !((16 : Int) == 0) then
        rec y0 r17.1 x25 0 0 true y6 y7
       else none
    else none
   else
    (impl_yadd_v4 y0 y7 r17.1 r17.2.1 r17.2.2.1 r17.2.2.2.1).bind fun r26 =>
    bif (r26.2.1 != 0) then
     some (r26.2.1, [], ())
    else
     (impl_ydesc_has r17.1 r17.2.1 r17.2.2.1 r17.2.2.2.1 1).bind fun r27 =>
     bif !r27.1 then
      some (0, r26.1, ())
     else
      rec y0 y1 y2 r17.2.2.2.1 (wrap64 (y4 + 1)) y5 y6 r26.1
noncomputable def impl_yreadChain_l6 : Nat → ByteArray → Int → Int → Int → Int → Bool → Int → List V1 → Option ((Int × List V1 × Unit))
 | 0 => fun _ _ _ _ _ _ _ _ => none
 | n + 1 => impl_yreadChain_l6_step (impl_yreadChain_l6 n)
noncomputable def impl_yreadChain_l6.ent : LEntry := ⟨(.cell (.val .bor (.str)) :: (sk 5 (.cell (.fix (.ptr 6 0)) :: (.cell (.fix (.view 7 0)) :: (.cell (.val .bor (.int .i64)) :: (.cell (.val .bor (.int .i64)) :: (.cell (.val .bor (.int .i64)) :: (.cell (.val .bor (.int .i64)) :: (.cell (.val .bor (.bool)) :: (sk 88 [])))))))))), rk 6 ([.val .bor (.int .i64), .fix (.nil)] :: ([.val .own (.slice R1)] :: (rk 93 []))), [(7, true, .pair (.int .i64) (.pair (.int .i64) (.bool)))], [], [⟨none, sk 6 (.cell (.fix (.ptr 6 0)) :: (sk 94 [])), rk 6 ([.val .bor (.int .i64), .val .own (.slice R1)] :: (rk 94 [])), [], [(6, 1, true, .pair (.int .i64) (.pair (.int .i64) (.bool)))]⟩], fun v => impl_yreadChain_l6 K0 v.1 v.2.1 v.2.2.1 v.2.2.2.1 v.2.2.2.2.1 v.2.2.2.2.2.1 v.2.2.2.2.2.2.1 v.2.2.2.2.2.2.2.1⟩
theorem impl_yreadChain_l6.eq : ∀ rec v, evStep impl_yreadChain.E6 (bodyAt 6 f82) impl_yreadChain_l6.ent.ins impl_yreadChain_l6.ent.rts impl_yreadChain_l6.ent.hm impl_yreadChain_l6.ent.nl impl_yreadChain_l6.ent.xs rec v = impl_yreadChain_l6_step (fun c0 c1 c2 c3 c4 c5 c6 c7 => rec (c0, c1, c2, c3, c4, c5, c6, c7, ())) v.1 v.2.1 v.2.2.1 v.2.2.2.1 v.2.2.2.2.1 v.2.2.2.2.2.1 v.2.2.2.2.2.2.1 v.2.2.2.2.2.2.2.1 := by intro rec v; kernel_rfl
noncomputable def impl_yreadChain.E : Env := ⟨D, [], [(79, impl_yin.ent), (69, impl_yreadDesc.ent), (70, impl_ydesc_has.ent), (87, impl_yfits.ent), (71, impl_yadd_v4.ent)], [(6, impl_yreadChain_l6.ent)]⟩
noncomputable def impl_yreadChain (a0 : ByteArray) (a1 : Int) (a2 : Int) (a3 : Int) (a4 : Int) (a5 : Int) (a6 : Int) (a7 : Int) : Option (Int × List V1 × Unit) :=
 (impl_yin a7 0 (wrap64 (a1 - 1))).bind fun r1 =>
 bif !r1.1 then
  some (1, [], ())
 else
  (impl_yreadChain_l6 K0 a0 a2 a1 a7 0 false 0 []).bind fun o28 =>
  some (o28.1, o28.2.1, ())
noncomputable def impl_yreadChain.ent : Entry := ⟨[false, false, false], [.cell (.val .bor (.str)), .agg [.val .bor (.int .i64), .val .bor (.int .i64), .val .bor (.int .i64), .val .bor (.int .i64), .val .bor (.int .i64), .val .bor (.int .i64)], .cell (.val .bor (.int .i64))], [.agg [.val .bor (.int .i64), .val .own (.slice R1)]], [], fun v => impl_yreadChain v.1 v.2.1 v.2.2.1 v.2.2.2.1 v.2.2.2.2.1 v.2.2.2.2.2.1 v.2.2.2.2.2.2.1 v.2.2.2.2.2.2.2.1⟩
theorem impl_yreadChain.eq : ∀ v, evFn impl_yreadChain.E f82 impl_yreadChain.ent.ptrs impl_yreadChain.ent.ins impl_yreadChain.ent.rets impl_yreadChain.ent.outs v = impl_yreadChain.ent.f v := by intro v; kernel_rfl
theorem impl_yreadChain.fok : ∀ q ∈ [((79 : Nat), impl_yin.ent), ((69 : Nat), impl_yreadDesc.ent), ((70 : Nat), impl_ydesc_has.ent), ((87 : Nat), impl_yfits.ent), ((71 : Nat), impl_yadd_v4.ent)], EntryOK Pr q.1 q.2 := by
 intro q hq
 simp only [List.mem_cons, List.mem_nil_iff, or_false] at hq
 rcases hq with rfl | rfl | rfl | rfl | rfl
 · exact impl_yin.ok
 · exact impl_yreadDesc.ok
 · exact impl_ydesc_has.ok
 · exact impl_yfits.ok
 · exact impl_yadd_v4.ok
theorem impl_yreadChain_l6.it : ∀ n v, iter (evStep impl_yreadChain.E6 (bodyAt 6 f82) impl_yreadChain_l6.ent.ins impl_yreadChain_l6.ent.rts impl_yreadChain_l6.ent.hm impl_yreadChain_l6.ent.nl impl_yreadChain_l6.ent.xs) n v = impl_yreadChain_l6 n v.1 v.2.1 v.2.2.1 v.2.2.2.1 v.2.2.2.2.1 v.2.2.2.2.2.1 v.2.2.2.2.2.2.1 v.2.2.2.2.2.2.2.1 := by
 intro n
 induction n with
 | zero => intro v; rfl
 | succ n ih =>
  intro v
  show (evStep impl_yreadChain.E6 (bodyAt 6 f82) impl_yreadChain_l6.ent.ins impl_yreadChain_l6.ent.rts impl_yreadChain_l6.ent.hm impl_yreadChain_l6.ent.nl impl_yreadChain_l6.ent.xs) (iter (evStep impl_yreadChain.E6 (bodyAt 6 f82) impl_yreadChain_l6.ent.ins impl_yreadChain_l6.ent.rts impl_yreadChain_l6.ent.hm impl_yreadChain_l6.ent.nl impl_yreadChain_l6.ent.xs) n) v = _
  rw [impl_yreadChain_l6.eq, show (fun c0 c1 c2 c3 c4 c5 c6 c7 => iter (evStep impl_yreadChain.E6 (bodyAt 6 f82) impl_yreadChain_l6.ent.ins impl_yreadChain_l6.ent.rts impl_yreadChain_l6.ent.hm impl_yreadChain_l6.ent.nl impl_yreadChain_l6.ent.xs) n (c0, c1, c2, c3, c4, c5, c6, c7, ())) = impl_yreadChain_l6 n from by funext c0 c1 c2 c3 c4 c5 c6 c7; exact ih _]
  rfl
theorem impl_yreadChain_l6.fr : firstRegion (bodyAt 6 f82) = 6 := by kernel_rfl
theorem impl_yreadChain_l6.ls : loopsOf (bodyAt 6 f82) = [] := by kernel_rfl
theorem impl_yreadChain_l6.lok {E : Env} (hpin : impl_yreadChain.E6.pin = E.pin) (hfind : find 6 E.loops = some impl_yreadChain_l6.ent) : LoopOK Pr E (bodyAt 6 f82) :=
 loop_of (E1 := impl_yreadChain.E6) (EnvOK.of dok impl_yreadChain.fok) mixed hpin (by rw [impl_yreadChain_l6.fr]; exact hfind) impl_yreadChain_l6.ls (by intro l hl; simp at hl) (fun v => (impl_yreadChain_l6.it K0 v).symm)
theorem impl_yreadChain.ls : loopsOf (bodyOf f82) = [bodyAt 6 f82] := by kernel_rfl
theorem impl_yreadChain.ok : EntryOK Pr 82 impl_yreadChain.ent :=
 entry_ok (E := impl_yreadChain.E) (EnvOK.of dok impl_yreadChain.fok) mixed (fn := f82) (by kernel_rfl) (by kernel_rfl) (by decide) impl_yreadChain.ls (by intro l hl; simp only [List.mem_singleton] at hl; subst hl; exact impl_yreadChain_l6.lok rfl rfl) impl_yreadChain.eq
/-! ### loop.example/g00038/impl.ytakeChain -/
noncomputable def impl_ytakeChain.E : Env := ⟨D, [], [(80, impl_ywordAt.ent), (81, impl_ymod.ent), (82, impl_yreadChain.ent)], []⟩
noncomputable def impl_ytakeChain (a0 : ByteArray) (a1 : Int) (a2 : Int) (a3 : Int) (a4 : Int) (a5 : Int) (a6 : Int) : Option (Int × Int × List V1 × Int × Int × Int × Int × Int × Int × Unit) :=
 (impl_ywordAt a0 (wrap64 (a3 + 4))).bind fun r1 =>
 bif !((65536 : Int) == 0) then
  let x2 : Int := (wrap64 ((Int.tmod r1.1 65536) - a5))
  (impl_ymod x2 65536).bind fun r3 =>
  bif (r3.1 == 0) then
   some (5, 0, [], 0, 0, 0, 0, 0, 0, ())
  else
  bif decide (r3.1 > a1) then
   some (8, 0, [], 0, 0, 0, 0, 0, 0, ())
  else
   let x4 : Int := (wrap64 ((4 : Int) * (Int.tmod a5 a1)))
   let x5 : Int := (wrap64 ((wrap64 (a3 + 8)) + x4))
   (impl_ywordAt a0 x5).bind fun r6 =>
   bif !(a1 == 0) then
    (impl_yreadChain a0 a1 a2 a3 a4 a5 a6 r6.1).bind fun r7 =>
    let x8 : Int := (Int.tmod (wrap64 (a5 + 1)) 65536)
    bif !((65536 : Int) == 0) then
     some (r7.1, r6.1, r7.2.1, a1, a2, a3, a4, x8, a6, ())
    else none
   else none
 else none
noncomputable def impl_ytakeChain.ent : Entry := ⟨[false, false], [.cell (.val .bor (.str)), .agg [.val .bor (.int .i64), .val .bor (.int .i64), .val .bor (.int .i64), .val .bor (.int .i64), .val .bor (.int .i64), .val .bor (.int .i64)]], [.agg [.val .bor (.int .i64), .val .bor (.int .i64), .val .own (.slice R1), .val .bor (.int .i64), .val .bor (.int .i64), .val .bor (.int .i64), .val .bor (.int .i64), .val .bor (.int .i64), .val .bor (.int .i64)]], [], fun v => impl_ytakeChain v.1 v.2.1 v.2.2.1 v.2.2.2.1 v.2.2.2.2.1 v.2.2.2.2.2.1 v.2.2.2.2.2.2.1⟩
theorem impl_ytakeChain.eq : ∀ v, evFn impl_ytakeChain.E f45 impl_ytakeChain.ent.ptrs impl_ytakeChain.ent.ins impl_ytakeChain.ent.rets impl_ytakeChain.ent.outs v = impl_ytakeChain.ent.f v := by intro v; kernel_rfl
theorem impl_ytakeChain.fok : ∀ q ∈ [((80 : Nat), impl_ywordAt.ent), ((81 : Nat), impl_ymod.ent), ((82 : Nat), impl_yreadChain.ent)], EntryOK Pr q.1 q.2 := by
 intro q hq
 simp only [List.mem_cons, List.mem_nil_iff, or_false] at hq
 rcases hq with rfl | rfl | rfl
 · exact impl_ywordAt.ok
 · exact impl_ymod.ok
 · exact impl_yreadChain.ok
theorem impl_ytakeChain.ls : loopsOf (bodyOf f45) = [] := by kernel_rfl
theorem impl_ytakeChain.ok : EntryOK Pr 45 impl_ytakeChain.ent :=
 entry_ok (E := impl_ytakeChain.E) (EnvOK.of dok impl_ytakeChain.fok) mixed (fn := f45) (by kernel_rfl) (by kernel_rfl) (by decide) impl_ytakeChain.ls (by intro l hl; simp at hl) impl_ytakeChain.eq
/-! ### loop.example/g00038/impl.ysize -/
noncomputable def impl_ysize.E3 : Env := ⟨D, [], [], []⟩
noncomputable def impl_ysize_l3_step (rec : Bool → Int → List V1 → Int → Int → Option ((Int × Unit))) (y0 : Bool) (y1 : Int) (y2 : List V1) (y3 : Int) (y4 : Int) : Option ((Int × Unit)) :=
 bif decide (y4 < y3) then
  let e1 : V1 := rd R1 y2 y4
  bif decide (0 ≤ y4) && decide (y4 < (y2.length : Int)) then
   let b2 : Bool := (bif (e1.2.2 == y0) then y0 else y0)
   let x3 : Int := (bif (e1.2.2 == y0) then (wrap64 (y1 + e1.2.1)) else y1)
   let l4 : List V1 := (bif (e1.2.2 == y0) then y2 else y2)
   let x5 : Int := (bif (e1.2.2 == y0) then y3 else y3)
   let x6 : Int := (bif (e1.2.2 == y0) then y4 else y4)
   rec b2 x3 l4 x5 (wrap64 (x6 + 1))
  else none
 else
  some (y1, ())
noncomputable def impl_ysize_l3 : Nat → Bool → Int → List V1 → Int → Int → Option ((Int × Unit))
 | 0 => fun _ _ _ _ _ => none
 | n + 1 => impl_ysize_l3_step (impl_ysize_l3 n)
noncomputable def impl_ysize_l3.ent : LEntry := ⟨sk 1 (.cell (.val .bor (.bool)) :: (sk 3 (.cell (.val .bor (.int .i64)) :: (sk 2 (.cell (.val .bor (.slice R1)) :: (.cell (.val .bor (.int .i64)) :: (.cell (.val .bor (.int .i64)) :: (sk 13 [])))))))), rk 24 [], [], [], [⟨some 0, sk 5 (.cell (.val .bor (.int .i64)) :: (sk 18 [])), rk 24 [], [], []⟩], fun v => impl_ysize_l3 K0 v.1 v.2.1 v.2.2.1 v.2.2.2.1 v.2.2.2.2.1⟩
theorem impl_ysize_l3.eq : ∀ rec v, evStep impl_ysize.E3 (bodyAt 3 f32) impl_ysize_l3.ent.ins impl_ysize_l3.ent.rts impl_ysize_l3.ent.hm impl_ysize_l3.ent.nl impl_ysize_l3.ent.xs rec v = impl_ysize_l3_step (fun c0 c1 c2 c3 c4 => rec (c0, c1, c2, c3, c4, ())) v.1 v.2.1 v.2.2.1 v.2.2.2.1 v.2.2.2.2.1 := by intro rec v; kernel_rfl
noncomputable def impl_ysize.E : Env := ⟨D, [], [], [(3, impl_ysize_l3.ent)]⟩
noncomputable def impl_ysize (a0 : List V1) (a1 : Bool) : Option (Int × Unit) :=
 (impl_ysize_l3 K0 a1 0 a0 (a0.length : Int) 0).bind fun o12 =>
 some (o12.1, ())
noncomputable def impl_ysize.ent : Entry := ⟨[false, false], [.cell (.val .bor (.slice R1)), .cell (.val .bor (.bool))], [.cell (.val .bor (.int .i64))], [], fun v => impl_ysize v.1 v.2.1⟩
theorem impl_ysize.eq : ∀ v, evFn impl_ysize.E f32 impl_ysize.ent.ptrs impl_ysize.ent.ins impl_ysize.ent.rets impl_ysize.ent.outs v = impl_ysize.ent.f v := by intro v; kernel_rfl
theorem impl_ysize.fok : ∀ q ∈ ([] : List (Nat × Entry)), EntryOK Pr q.1 q.2 := by intro q hq; simp at hq
theorem impl_ysize_l3.it : ∀ n v, iter (evStep impl_ysize.E3 (bodyAt 3 f32) impl_ysize_l3.ent.ins impl_ysize_l3.ent.rts impl_ysize_l3.ent.hm impl_ysize_l3.ent.nl impl_ysize_l3.ent.xs) n v = impl_ysize_l3 n v.1 v.2.1 v.2.2.1 v.2.2.2.1 v.2.2.2.2.1 := by
 intro n
 induction n with
 | zero => intro v; rfl
 | succ n ih =>
  intro v
  show (evStep impl_ysize.E3 (bodyAt 3 f32) impl_ysize_l3.ent.ins impl_ysize_l3.ent.rts impl_ysize_l3.ent.hm impl_ysize_l3.ent.nl impl_ysize_l3.ent.xs) (iter (evStep impl_ysize.E3 (bodyAt 3 f32) impl_ysize_l3.ent.ins impl_ysize_l3.ent.rts impl_ysize_l3.ent.hm impl_ysize_l3.ent.nl impl_ysize_l3.ent.xs) n) v = _
  rw [impl_ysize_l3.eq, show (fun c0 c1 c2 c3 c4 => iter (evStep impl_ysize.E3 (bodyAt 3 f32) impl_ysize_l3.ent.ins impl_ysize_l3.ent.rts impl_ysize_l3.ent.hm impl_ysize_l3.ent.nl impl_ysize_l3.ent.xs) n (c0, c1, c2, c3, c4, ())) = impl_ysize_l3 n from by funext c0 c1 c2 c3 c4; exact ih _]
  rfl
theorem impl_ysize_l3.fr : firstRegion (bodyAt 3 f32) = 3 := by kernel_rfl
theorem impl_ysize_l3.ls : loopsOf (bodyAt 3 f32) = [] := by kernel_rfl
theorem impl_ysize_l3.lok {E : Env} (hpin : impl_ysize.E3.pin = E.pin) (hfind : find 3 E.loops = some impl_ysize_l3.ent) : LoopOK Pr E (bodyAt 3 f32) :=
 loop_of (E1 := impl_ysize.E3) (EnvOK.of dok impl_ysize.fok) mixed hpin (by rw [impl_ysize_l3.fr]; exact hfind) impl_ysize_l3.ls (by intro l hl; simp at hl) (fun v => (impl_ysize_l3.it K0 v).symm)
theorem impl_ysize.ls : loopsOf (bodyOf f32) = [bodyAt 3 f32] := by kernel_rfl
theorem impl_ysize.ok : EntryOK Pr 32 impl_ysize.ent :=
 entry_ok (E := impl_ysize.E) (EnvOK.of dok impl_ysize.fok) mixed (fn := f32) (by kernel_rfl) (by kernel_rfl) (by decide) impl_ysize.ls (by intro l hl; simp only [List.mem_singleton] at hl; subst hl; exact impl_ysize_l3.lok rfl rfl) impl_ysize.eq
/-! ### loop.example/g00038/impl.yspread -/
noncomputable def impl_yspread.E3 : Env := ⟨D, [], [], []⟩
noncomputable def impl_yspread_l3_step (rec : Int → ByteArray → List V1 → Int → Int → List Int → Option ((List Int × Unit))) (y0 : Int) (y1 : ByteArray) (y2 : List V1) (y3 : Int) (y4 : Int) (y5 : List Int) : Option ((List Int × Unit)) :=
 bif decide (y4 < y3) then
  let e1 : V1 := rd R1 y2 y4
  bif decide (0 ≤ y4) && decide (y4 < (y2.length : Int)) then
   bif !e1.2.2 then
    rec y0 y1 y2 y3 (wrap64 (y4 + 1)) y5
   else
   bif decide (y0 ≥ e1.2.1) then
    rec (wrap64 (y0 - e1.2.1)) y1 y2 y3 (wrap64 (y4 + 1)) y5
   else
    let l2 : List Int := y5.take (wrap64 (e1.1 + y0)).toNat ++ (s2b y1).take ((wrap64 (e1.1 + e1.2.1)) - (wrap64 (e1.1 + y0))).toNat ++ y5.drop ((wrap64 (e1.1 + y0)).toNat + min (s2b y1).length ((wrap64 (e1.1 + e1.2.1)) - (wrap64 (e1.1 + y0))).toNat)
    bif (decide (0 ≤ (wrap64 (e1.1 + e1.2.1))) && decide ((wrap64 (e1.1 + e1.2.1)) ≤ (y5.length : Int))) && (decide (0 ≤ (wrap64 (e1.1 + y0))) && decide ((wrap64 (e1.1 + y0)) ≤ (wrap64 (e1.1 + e1.2.1)))) then
     let s3 : ByteArray := y1.extract ((min (s2b y1).length ((wrap64 (e1.1 + e1.2.1)) - (wrap64 (e1.1 + y0))).toNat : Nat) : Int).toNat y1.size
     bif decide (0 ≤ ((min (s2b y1).length ((wrap64 (e1.1 + e1.2.1)) - (wrap64 (e1.1 + y0))).toNat : Nat) : Int)) && decide (((min (s2b y1).length ((wrap64 (e1.1 + e1.2.1)) - (wrap64 (e1.1 + y0))).toNat : Nat) : Int) ≤ (y1.size : Int)) then
      rec 0 s3 y2 y3 (wrap64 (y4 + 1)) l2
     else none
    else none
  else none
 else
  some (y5, ())
noncomputable def impl_yspread_l3 : Nat → Int → ByteArray → List V1 → Int → Int → List Int → Option ((List Int × Unit))
 | 0 => fun _ _ _ _ _ _ => none
 | n + 1 => impl_yspread_l3_step (impl_yspread_l3 n)
noncomputable def impl_yspread_l3.ent : LEntry := ⟨sk 2 (.cell (.val .bor (.int .i64)) :: (.cell (.val .bor (.str)) :: (sk 5 (.cell (.fix (.view 14 0)) :: (sk 5 (.cell (.val .bor (.slice R1)) :: (.cell (.val .bor (.int .i64)) :: (.cell (.val .bor (.int .i64)) :: (sk 33 []))))))))), rk 14 ([.val .own (.slice (.int .u8))] :: (rk 36 [])), [], [], [⟨some 0, sk 9 (.cell (.fix (.view 14 0)) :: (sk 41 [])), rk 14 ([.val .own (.slice (.int .u8))] :: (rk 36 [])), [], []⟩], fun v => impl_yspread_l3 K0 v.1 v.2.1 v.2.2.1 v.2.2.2.1 v.2.2.2.2.1 v.2.2.2.2.2.1⟩
theorem impl_yspread_l3.eq : ∀ rec v, evStep impl_yspread.E3 (bodyAt 3 f47) impl_yspread_l3.ent.ins impl_yspread_l3.ent.rts impl_yspread_l3.ent.hm impl_yspread_l3.ent.nl impl_yspread_l3.ent.xs rec v = impl_yspread_l3_step (fun c0 c1 c2 c3 c4 c5 => rec (c0, c1, c2, c3, c4, c5, ())) v.1 v.2.1 v.2.2.1 v.2.2.2.1 v.2.2.2.2.1 v.2.2.2.2.2.1 := by intro rec v; kernel_rfl
noncomputable def impl_yspread.E : Env := ⟨D, [], [], [(3, impl_yspread_l3.ent)]⟩
noncomputable def impl_yspread (a0 : ByteArray) (a1 : List V1) (a2 : Int) (a3 : ByteArray) : Option (ByteArray × Unit) :=
 (impl_yspread_l3 K0 a2 a3 a1 (a1.length : Int) 0 (s2b a0)).bind fun o4 =>
 some (b2s o4.1, ())
noncomputable def impl_yspread.ent : Entry := ⟨[false, false, false, false], [.cell (.val .bor (.str)), .cell (.val .bor (.slice R1)), .cell (.val .bor (.int .i64)), .cell (.val .bor (.str))], [.cell (.val .bor (.str))], [], fun v => impl_yspread v.1 v.2.1 v.2.2.1 v.2.2.2.1⟩
theorem impl_yspread.eq : ∀ v, evFn impl_yspread.E f47 impl_yspread.ent.ptrs impl_yspread.ent.ins impl_yspread.ent.rets impl_yspread.ent.outs v = impl_yspread.ent.f v := by intro v; kernel_rfl
theorem impl_yspread.fok : ∀ q ∈ ([] : List (Nat × Entry)), EntryOK Pr q.1 q.2 := by intro q hq; simp at hq
theorem impl_yspread_l3.it : ∀ n v, iter (evStep impl_yspread.E3 (bodyAt 3 f47) impl_yspread_l3.ent.ins impl_yspread_l3.ent.rts impl_yspread_l3.ent.hm impl_yspread_l3.ent.nl impl_yspread_l3.ent.xs) n v = impl_yspread_l3 n v.1 v.2.1 v.2.2.1 v.2.2.2.1 v.2.2.2.2.1 v.2.2.2.2.2.1 := by
 intro n
 induction n with
 | zero => intro v; rfl
 | succ n ih =>
  intro v
  show (evStep impl_yspread.E3 (bodyAt 3 f47) impl_yspread_l3.ent.ins impl_yspread_l3.ent.rts impl_yspread_l3.ent.hm impl_yspread_l3.ent.nl impl_yspread_l3.ent.xs) (iter (evStep impl_yspread.E3 (bodyAt 3 f47) impl_yspread_l3.ent.ins impl_yspread_l3.ent.rts impl_yspread_l3.ent.hm impl_yspread_l3.ent.nl impl_yspread_l3.ent.xs) n) v = _
  rw [impl_yspread_l3.eq, show (fun c0 c1 c2 c3 c4 c5 => iter (evStep impl_yspread.E3 (bodyAt 3 f47) impl_yspread_l3.ent.ins impl_yspread_l3.ent.rts impl_yspread_l3.ent.hm impl_yspread_l3.ent.nl impl_yspread_l3.ent.xs) n (c0, c1, c2, c3, c4, c5, ())) = impl_yspread_l3 n from by funext c0 c1 c2 c3 c4 c5; exact ih _]
  rfl
theorem impl_yspread_l3.fr : firstRegion (bodyAt 3 f47) = 3 := by kernel_rfl
theorem impl_yspread_l3.ls : loopsOf (bodyAt 3 f47) = [] := by kernel_rfl
theorem impl_yspread_l3.lok {E : Env} (hpin : impl_yspread.E3.pin = E.pin) (hfind : find 3 E.loops = some impl_yspread_l3.ent) : LoopOK Pr E (bodyAt 3 f47) :=
 loop_of (E1 := impl_yspread.E3) (EnvOK.of dok impl_yspread.fok) mixed hpin (by rw [impl_yspread_l3.fr]; exact hfind) impl_yspread_l3.ls (by intro l hl; simp at hl) (fun v => (impl_yspread_l3.it K0 v).symm)
theorem impl_yspread.ls : loopsOf (bodyOf f47) = [bodyAt 3 f47] := by kernel_rfl
theorem impl_yspread.ok : EntryOK Pr 47 impl_yspread.ent :=
 entry_ok (E := impl_yspread.E) (EnvOK.of dok impl_yspread.fok) mixed (fn := f47) (by kernel_rfl) (by kernel_rfl) (by decide) impl_yspread.ls (by intro l hl; simp only [List.mem_singleton] at hl; subst hl; exact impl_yspread_l3.lok rfl rfl) impl_yspread.eq
/-! ### loop.example/g00038/impl.PutWord -/
noncomputable def impl_PutWord.E : Env := ⟨D, [], [], []⟩
noncomputable def impl_PutWord (a0 : Int) : Option (ByteArray × Unit) :=
 let x1 : Int := (IntKind.u8.wrap ((IntKind.u32.wrap (a0))))
 let x2 : Int := shr .u32 (IntKind.u32.wrap (a0)) 8
 let x3 : Int := shr .u32 (IntKind.u32.wrap (a0)) 16
 let x4 : Int := shr .u32 (IntKind.u32.wrap (a0)) 24
 let l5 : List Int := [x1, (IntKind.u8.wrap (x2)), (IntKind.u8.wrap (x3)), (IntKind.u8.wrap (x4))]
 bif (decide (0 ≤ (8 : Int))) && ((decide (0 ≤ (16 : Int))) && (decide (0 ≤ (24 : Int)))) then
  some (b2s l5, ())
 else none
noncomputable def impl_PutWord.ent : Entry := ⟨[false], [.cell (.val .bor (.int .i64))], [.cell (.val .bor (.str))], [], fun v => impl_PutWord v.1⟩
theorem impl_PutWord.eq : ∀ v, evFn impl_PutWord.E f90 impl_PutWord.ent.ptrs impl_PutWord.ent.ins impl_PutWord.ent.rets impl_PutWord.ent.outs v = impl_PutWord.ent.f v := by intro v; kernel_rfl
theorem impl_PutWord.fok : ∀ q ∈ ([] : List (Nat × Entry)), EntryOK Pr q.1 q.2 := by intro q hq; simp at hq
theorem impl_PutWord.ls : loopsOf (bodyOf f90) = [] := by kernel_rfl
theorem impl_PutWord.ok : EntryOK Pr 90 impl_PutWord.ent :=
 entry_ok (E := impl_PutWord.E) (EnvOK.of dok impl_PutWord.fok) mixed (fn := f90) (by kernel_rfl) (by kernel_rfl) (by decide) impl_PutWord.ls (by intro l hl; simp at hl) impl_PutWord.eq
/-! ### loop.example/g00038/impl.ysplice -/
noncomputable def impl_ysplice.E : Env := ⟨D, [], [], []⟩
noncomputable def impl_ysplice (a0 : ByteArray) (a1 : Int) (a2 : ByteArray) : Option (ByteArray × Unit) :=
 let s1 : ByteArray := ((a0.extract 0 a1.toNat) ++ a2)
 let x2 : Int := (wrap64 (a1 + (a2.size : Int)))
 let s3 : ByteArray := a0.extract x2.toNat a0.size
 bif (decide (0 ≤ a1) && decide (a1 ≤ (a0.size : Int))) && ((joins (a0.extract 0 a1.toNat) a2) && ((decide (0 ≤ x2) && decide (x2 ≤ (a0.size : Int))) && (joins s1 s3))) then
  some ((s1 ++ s3), ())
 else none
noncomputable def impl_ysplice.ent : Entry := ⟨[false, false, false], [.cell (.val .bor (.str)), .cell (.val .bor (.int .i64)), .cell (.val .bor (.str))], [.cell (.val .bor (.str))], [], fun v => impl_ysplice v.1 v.2.1 v.2.2.1⟩
theorem impl_ysplice.eq : ∀ v, evFn impl_ysplice.E f89 impl_ysplice.ent.ptrs impl_ysplice.ent.ins impl_ysplice.ent.rets impl_ysplice.ent.outs v = impl_ysplice.ent.f v := by intro v; kernel_rfl
theorem impl_ysplice.fok : ∀ q ∈ ([] : List (Nat × Entry)), EntryOK Pr q.1 q.2 := by intro q hq; simp at hq
theorem impl_ysplice.ls : loopsOf (bodyOf f89) = [] := by kernel_rfl
theorem impl_ysplice.ok : EntryOK Pr 89 impl_ysplice.ent :=
 entry_ok (E := impl_ysplice.E) (EnvOK.of dok impl_ysplice.fok) mixed (fn := f89) (by kernel_rfl) (by kernel_rfl) (by decide) impl_ysplice.ls (by intro l hl; simp at hl) impl_ysplice.eq
/-! ### loop.example/g00038/impl.yset -/
noncomputable def impl_yset.E2 : Env := ⟨D, [], [(90, impl_PutWord.ent), (89, impl_ysplice.ent)], []⟩
noncomputable def impl_yset_l2_step (rec : ByteArray → Int → List Int → Int → Int → Option ((ByteArray × Unit))) (y0 : ByteArray) (y1 : Int) (y2 : List Int) (y3 : Int) (y4 : Int) : Option ((ByteArray × Unit)) :=
 bif decide (y4 < y3) then
  bif decide (0 ≤ y4) && decide (y4 < (y2.length : Int)) then
   let x1 : Int := (wrap64 ((4 : Int) * y4))
   (impl_PutWord (rd (.int .i64) y2 y4)).bind fun r2 =>
   (impl_ysplice y0 (wrap64 (y1 + x1)) r2.1).bind fun r3 =>
   rec r3.1 y1 y2 y3 (wrap64 (y4 + 1))
  else none
 else
  some (y0, ())
noncomputable def impl_yset_l2 : Nat → ByteArray → Int → List Int → Int → Int → Option ((ByteArray × Unit))
 | 0 => fun _ _ _ _ _ => none
 | n + 1 => impl_yset_l2_step (impl_yset_l2 n)
noncomputable def impl_yset_l2.ent : LEntry := ⟨(.cell (.val .bor (.str)) :: (.cell (.val .bor (.int .i64)) :: (sk 7 (.cell (.val .bor (.slice (.int .i64))) :: (.cell (.val .bor (.int .i64)) :: (.cell (.val .bor (.int .i64)) :: (sk 14 []))))))), rk 26 [], [], [], [⟨some 0, (.cell (.val .bor (.str)) :: (sk 25 [])), rk 26 [], [], []⟩], fun v => impl_yset_l2 K0 v.1 v.2.1 v.2.2.1 v.2.2.2.1 v.2.2.2.2.1⟩
theorem impl_yset_l2.eq : ∀ rec v, evStep impl_yset.E2 (bodyAt 2 f72) impl_yset_l2.ent.ins impl_yset_l2.ent.rts impl_yset_l2.ent.hm impl_yset_l2.ent.nl impl_yset_l2.ent.xs rec v = impl_yset_l2_step (fun c0 c1 c2 c3 c4 => rec (c0, c1, c2, c3, c4, ())) v.1 v.2.1 v.2.2.1 v.2.2.2.1 v.2.2.2.2.1 := by intro rec v; kernel_rfl
noncomputable def impl_yset.E : Env := ⟨D, [], [(90, impl_PutWord.ent), (89, impl_ysplice.ent)], [(2, impl_yset_l2.ent)]⟩
noncomputable def impl_yset (a0 : ByteArray) (a1 : Int) (a2 : List Int) : Option (ByteArray × Unit) :=
 (impl_yset_l2 K0 a0 a1 a2 (a2.length : Int) 0).bind fun o4 =>
 some (o4.1, ())
noncomputable def impl_yset.ent : Entry := ⟨[false, false, false], [.cell (.val .bor (.str)), .cell (.val .bor (.int .i64)), .cell (.val .bor (.slice (.int .i64)))], [.cell (.val .bor (.str))], [], fun v => impl_yset v.1 v.2.1 v.2.2.1⟩
theorem impl_yset.eq : ∀ v, evFn impl_yset.E f72 impl_yset.ent.ptrs impl_yset.ent.ins impl_yset.ent.rets impl_yset.ent.outs v = impl_yset.ent.f v := by intro v; kernel_rfl
theorem impl_yset.fok : ∀ q ∈ [((90 : Nat), impl_PutWord.ent), ((89 : Nat), impl_ysplice.ent)], EntryOK Pr q.1 q.2 := by
 intro q hq
 simp only [List.mem_cons, List.mem_nil_iff, or_false] at hq
 rcases hq with rfl | rfl
 · exact impl_PutWord.ok
 · exact impl_ysplice.ok
theorem impl_yset_l2.it : ∀ n v, iter (evStep impl_yset.E2 (bodyAt 2 f72) impl_yset_l2.ent.ins impl_yset_l2.ent.rts impl_yset_l2.ent.hm impl_yset_l2.ent.nl impl_yset_l2.ent.xs) n v = impl_yset_l2 n v.1 v.2.1 v.2.2.1 v.2.2.2.1 v.2.2.2.2.1 := by
 intro n
 induction n with
 | zero => intro v; rfl
 | succ n ih =>
  intro v
  show (evStep impl_yset.E2 (bodyAt 2 f72) impl_yset_l2.ent.ins impl_yset_l2.ent.rts impl_yset_l2.ent.hm impl_yset_l2.ent.nl impl_yset_l2.ent.xs) (iter (evStep impl_yset.E2 (bodyAt 2 f72) impl_yset_l2.ent.ins impl_yset_l2.ent.rts impl_yset_l2.ent.hm impl_yset_l2.ent.nl impl_yset_l2.ent.xs) n) v = _
  rw [impl_yset_l2.eq, show (fun c0 c1 c2 c3 c4 => iter (evStep impl_yset.E2 (bodyAt 2 f72) impl_yset_l2.ent.ins impl_yset_l2.ent.rts impl_yset_l2.ent.hm impl_yset_l2.ent.nl impl_yset_l2.ent.xs) n (c0, c1, c2, c3, c4, ())) = impl_yset_l2 n from by funext c0 c1 c2 c3 c4; exact ih _]
  rfl
theorem impl_yset_l2.fr : firstRegion (bodyAt 2 f72) = 2 := by kernel_rfl
theorem impl_yset_l2.ls : loopsOf (bodyAt 2 f72) = [] := by kernel_rfl
theorem impl_yset_l2.lok {E : Env} (hpin : impl_yset.E2.pin = E.pin) (hfind : find 2 E.loops = some impl_yset_l2.ent) : LoopOK Pr E (bodyAt 2 f72) :=
 loop_of (E1 := impl_yset.E2) (EnvOK.of dok impl_yset.fok) mixed hpin (by rw [impl_yset_l2.fr]; exact hfind) impl_yset_l2.ls (by intro l hl; simp at hl) (fun v => (impl_yset_l2.it K0 v).symm)
theorem impl_yset.ls : loopsOf (bodyOf f72) = [bodyAt 2 f72] := by kernel_rfl
theorem impl_yset.ok : EntryOK Pr 72 impl_yset.ent :=
 entry_ok (E := impl_yset.E) (EnvOK.of dok impl_yset.fok) mixed (fn := f72) (by kernel_rfl) (by kernel_rfl) (by decide) impl_yset.ls (by intro l hl; simp only [List.mem_singleton] at hl; subst hl; exact impl_yset_l2.lok rfl rfl) impl_yset.eq
/-! ### loop.example/g00038/impl.ygiveChain -/
noncomputable def impl_ygiveChain.E : Env := ⟨D, [], [(72, impl_yset.ent), (80, impl_ywordAt.ent)], []⟩
noncomputable def impl_ygiveChain (a0 : ByteArray) (a1 : Int) (a2 : Int) (a3 : Int) (a4 : Int) (a5 : Int) (a6 : Int) (a7 : Int) (a8 : Int) : Option (Int × ByteArray × Int × Int × Int × Int × Int × Int × Bool × Unit) :=
 let x1 : Int := (wrap64 ((8 : Int) * (Int.tmod a6 a1)))
 let x2 : Int := (wrap64 ((wrap64 (a4 + 8)) + x1))
 (impl_yset a0 x2 [a7, a8]).bind fun r3 =>
 bif !(a1 == 0) then
  let x4 : Int := (Int.tmod (wrap64 (a6 + 1)) 65536)
  bif !((65536 : Int) == 0) then
   (impl_yset r3.1 (wrap64 (a4 + 4)) [x4]).bind fun r5 =>
   (impl_ywordAt r5.1 a3).bind fun r6 =>
   let b7 : Bool := ((bits .and .i64 r6.1 1) == 0)
   some (0, r5.1, a1, a2, a3, a4, a5, x4, b7, ())
  else none
 else none
noncomputable def impl_ygiveChain.ent : Entry := ⟨[false, false, false, false], [.cell (.val .bor (.str)), .agg [.val .bor (.int .i64), .val .bor (.int .i64), .val .bor (.int .i64), .val .bor (.int .i64), .val .bor (.int .i64), .val .bor (.int .i64)], .cell (.val .bor (.int .i64)), .cell (.val .bor (.int .i64))], [.agg [.val .bor (.int .i64), .val .bor (.str), .val .bor (.int .i64), .val .bor (.int .i64), .val .bor (.int .i64), .val .bor (.int .i64), .val .bor (.int .i64), .val .bor (.int .i64), .val .bor (.bool)]], [], fun v => impl_ygiveChain v.1 v.2.1 v.2.2.1 v.2.2.2.1 v.2.2.2.2.1 v.2.2.2.2.2.1 v.2.2.2.2.2.2.1 v.2.2.2.2.2.2.2.1 v.2.2.2.2.2.2.2.2.1⟩
theorem impl_ygiveChain.eq : ∀ v, evFn impl_ygiveChain.E f46 impl_ygiveChain.ent.ptrs impl_ygiveChain.ent.ins impl_ygiveChain.ent.rets impl_ygiveChain.ent.outs v = impl_ygiveChain.ent.f v := by intro v; kernel_rfl
theorem impl_ygiveChain.fok : ∀ q ∈ [((72 : Nat), impl_yset.ent), ((80 : Nat), impl_ywordAt.ent)], EntryOK Pr q.1 q.2 := by
 intro q hq
 simp only [List.mem_cons, List.mem_nil_iff, or_false] at hq
 rcases hq with rfl | rfl
 · exact impl_yset.ok
 · exact impl_ywordAt.ok
theorem impl_ygiveChain.ls : loopsOf (bodyOf f46) = [] := by kernel_rfl
theorem impl_ygiveChain.ok : EntryOK Pr 46 impl_ygiveChain.ent :=
 entry_ok (E := impl_ygiveChain.E) (EnvOK.of dok impl_ygiveChain.fok) mixed (fn := f46) (by kernel_rfl) (by kernel_rfl) (by decide) impl_ygiveChain.ls (by intro l hl; simp at hl) impl_ygiveChain.eq
/-! ### loop.example/g00038/impl.ReceiveFrame -/
noncomputable def impl_ReceiveFrame.E : Env := ⟨D, [], [(43, impl_ybig.ent), (44, impl_QueueFault.ent), (45, impl_ytakeChain.ent), (32, impl_ysize.ent), (47, impl_yspread.ent), (46, impl_ygiveChain.ent)], []⟩
noncomputable def impl_ReceiveFrame (a0 : ByteArray) (a1 : Int) (a2 : Int) (a3 : Int) (a4 : Int) (a5 : Int) (a6 : Int) (a7 : ByteArray) : Option (Int × ByteArray × Int × Int × Int × Int × Int × Int × ByteArray × Int × Bool × Unit) :=
 (impl_ybig [a0, a7]).bind fun r1 =>
 bif r1.1 then
  some (2, ByteArray.empty, 0, 0, 0, 0, 0, 0, ByteArray.empty, 0, false, ())
 else
  (impl_QueueFault a0 a1 a2 a3 a4 a5 a6).bind fun r2 =>
  let b3 : Bool := decide ((a7.size : Int) > 1500)
  bif ((r2.1 != 0) || b3) then
   some (1, ByteArray.empty, 0, 0, 0, 0, 0, 0, ByteArray.empty, 0, false, ())
  else
   (impl_ytakeChain a0 a1 a2 a3 a4 a5 a6).bind fun r4 =>
   bif (r4.1 != 0) then
    some (r4.1, ByteArray.empty, 0, 0, 0, 0, 0, 0, ByteArray.empty, 0, false, ())
   else
    (impl_ysize r4.2.2.1 true).bind fun r5 =>
    let b6 : Bool := decide (r5.1 < (a7.size : Int))
    bif b6 then
     some (4, ByteArray.empty, 0, 0, 0, 0, 0, 0, ByteArray.empty, 0, false, ())
    else
     (impl_yspread a0 r4.2.2.1 0 a7).bind fun r7 =>
     (impl_ygiveChain r7.1 r4.2.2.2.1 r4.2.2.2.2.1 r4.2.2.2.2.2.1 r4.2.2.2.2.2.2.1 r4.2.2.2.2.2.2.2.1 r4.2.2.2.2.2.2.2.2.1 r4.2.1 (a7.size : Int)).bind fun r8 =>
     some (0, r8.2.1, r8.2.2.1, r8.2.2.2.1, r8.2.2.2.2.1, r8.2.2.2.2.2.1, r8.2.2.2.2.2.2.1, r8.2.2.2.2.2.2.2.1, ByteArray.empty, 1, r8.2.2.2.2.2.2.2.2.1, ())
noncomputable def impl_ReceiveFrame.ent : Entry := ⟨[false, false, false], [.cell (.val .bor (.str)), .agg [.val .bor (.int .i64), .val .bor (.int .i64), .val .bor (.int .i64), .val .bor (.int .i64), .val .bor (.int .i64), .val .bor (.int .i64)], .cell (.val .bor (.str))], [.agg [.val .bor (.int .i64), .val .bor (.str), .val .bor (.int .i64), .val .bor (.int .i64), .val .bor (.int .i64), .val .bor (.int .i64), .val .bor (.int .i64), .val .bor (.int .i64), .val .bor (.str), .val .bor (.int .i64), .val .bor (.bool)]], [], fun v => impl_ReceiveFrame v.1 v.2.1 v.2.2.1 v.2.2.2.1 v.2.2.2.2.1 v.2.2.2.2.2.1 v.2.2.2.2.2.2.1 v.2.2.2.2.2.2.2.1⟩
theorem impl_ReceiveFrame.eq : ∀ v, evFn impl_ReceiveFrame.E f15 impl_ReceiveFrame.ent.ptrs impl_ReceiveFrame.ent.ins impl_ReceiveFrame.ent.rets impl_ReceiveFrame.ent.outs v = impl_ReceiveFrame.ent.f v := by intro v; kernel_rfl
theorem impl_ReceiveFrame.fok : ∀ q ∈ [((43 : Nat), impl_ybig.ent), ((44 : Nat), impl_QueueFault.ent), ((45 : Nat), impl_ytakeChain.ent), ((32 : Nat), impl_ysize.ent), ((47 : Nat), impl_yspread.ent), ((46 : Nat), impl_ygiveChain.ent)], EntryOK Pr q.1 q.2 := by
 intro q hq
 simp only [List.mem_cons, List.mem_nil_iff, or_false] at hq
 rcases hq with rfl | rfl | rfl | rfl | rfl | rfl
 · exact impl_ybig.ok
 · exact impl_QueueFault.ok
 · exact impl_ytakeChain.ok
 · exact impl_ysize.ok
 · exact impl_yspread.ok
 · exact impl_ygiveChain.ok
theorem impl_ReceiveFrame.ls : loopsOf (bodyOf f15) = [] := by kernel_rfl
theorem impl_ReceiveFrame.ok : EntryOK Pr 15 impl_ReceiveFrame.ent :=
 entry_ok (E := impl_ReceiveFrame.E) (EnvOK.of dok impl_ReceiveFrame.fok) mixed (fn := f15) (by kernel_rfl) (by kernel_rfl) (by decide) impl_ReceiveFrame.ls (by intro l hl; simp at hl) impl_ReceiveFrame.eq
/-! ### loop.example/g00038/laws.eqQueue -/
noncomputable def laws_eqQueue.E : Env := ⟨D, [], [], []⟩
noncomputable def laws_eqQueue (a0 : Int) (a1 : Int) (a2 : Int) (a3 : Int) (a4 : Int) (a5 : Int) (a6 : Int) (a7 : Int) (a8 : Int) (a9 : Int) (a10 : Int) (a11 : Int) : Option (Bool × Unit) :=
 bif (a0 != a6) then
  some (false, ())
 else
 bif (a1 != a7) then
  some (false, ())
 else
 bif (a2 != a8) then
  some (false, ())
 else
 bif (a3 != a9) then
  some (false, ())
 else
 bif (a4 != a10) then
  some (false, ())
 else
 bif (a5 != a11) then
  some (false, ())
 else
  some (true, ())
noncomputable def laws_eqQueue.ent : Entry := ⟨[false, false], [.agg [.val .bor (.int .i64), .val .bor (.int .i64), .val .bor (.int .i64), .val .bor (.int .i64), .val .bor (.int .i64), .val .bor (.int .i64)], .agg [.val .bor (.int .i64), .val .bor (.int .i64), .val .bor (.int .i64), .val .bor (.int .i64), .val .bor (.int .i64), .val .bor (.int .i64)]], [.cell (.val .bor (.bool))], [], fun v => laws_eqQueue v.1 v.2.1 v.2.2.1 v.2.2.2.1 v.2.2.2.2.1 v.2.2.2.2.2.1 v.2.2.2.2.2.2.1 v.2.2.2.2.2.2.2.1 v.2.2.2.2.2.2.2.2.1 v.2.2.2.2.2.2.2.2.2.1 v.2.2.2.2.2.2.2.2.2.2.1 v.2.2.2.2.2.2.2.2.2.2.2.1⟩
theorem laws_eqQueue.eq : ∀ v, evFn laws_eqQueue.E f48 laws_eqQueue.ent.ptrs laws_eqQueue.ent.ins laws_eqQueue.ent.rets laws_eqQueue.ent.outs v = laws_eqQueue.ent.f v := by intro v; kernel_rfl
theorem laws_eqQueue.fok : ∀ q ∈ ([] : List (Nat × Entry)), EntryOK Pr q.1 q.2 := by intro q hq; simp at hq
theorem laws_eqQueue.ls : loopsOf (bodyOf f48) = [] := by kernel_rfl
theorem laws_eqQueue.ok : EntryOK Pr 48 laws_eqQueue.ent :=
 entry_ok (E := laws_eqQueue.E) (EnvOK.of dok laws_eqQueue.fok) mixed (fn := f48) (by kernel_rfl) (by kernel_rfl) (by decide) laws_eqQueue.ls (by intro l hl; simp at hl) laws_eqQueue.eq
/-! ### loop.example/g00038/laws.eqServed -/
noncomputable def laws_eqServed.E : Env := ⟨D, [], [(48, laws_eqQueue.ent)], []⟩
noncomputable def laws_eqServed (a0 : Int) (a1 : ByteArray) (a2 : Int) (a3 : Int) (a4 : Int) (a5 : Int) (a6 : Int) (a7 : Int) (a8 : ByteArray) (a9 : Int) (a10 : Bool) (a11 : Int) (a12 : ByteArray) (a13 : Int) (a14 : Int) (a15 : Int) (a16 : Int) (a17 : Int) (a18 : Int) (a19 : ByteArray) (a20 : Int) (a21 : Bool) : Option (Bool × Unit) :=
 bif (a0 != a11) then
  some (false, ())
 else
 bif !seq a1 a12 then
  some (false, ())
 else
  (laws_eqQueue a2 a3 a4 a5 a6 a7 a13 a14 a15 a16 a17 a18).bind fun r1 =>
  bif !r1.1 then
   some (false, ())
  else
  bif !seq a8 a19 then
   some (false, ())
  else
  bif (a9 != a20) then
   some (false, ())
  else
  bif !(a10 == a21) then
   some (false, ())
  else
   some (true, ())
noncomputable def laws_eqServed.ent : Entry := ⟨[false, false], [.agg [.val .bor (.int .i64), .val .bor (.str), .val .bor (.int .i64), .val .bor (.int .i64), .val .bor (.int .i64), .val .bor (.int .i64), .val .bor (.int .i64), .val .bor (.int .i64), .val .bor (.str), .val .bor (.int .i64), .val .bor (.bool)], .agg [.val .bor (.int .i64), .val .bor (.str), .val .bor (.int .i64), .val .bor (.int .i64), .val .bor (.int .i64), .val .bor (.int .i64), .val .bor (.int .i64), .val .bor (.int .i64), .val .bor (.str), .val .bor (.int .i64), .val .bor (.bool)]], [.cell (.val .bor (.bool))], [], fun v => laws_eqServed v.1 v.2.1 v.2.2.1 v.2.2.2.1 v.2.2.2.2.1 v.2.2.2.2.2.1 v.2.2.2.2.2.2.1 v.2.2.2.2.2.2.2.1 v.2.2.2.2.2.2.2.2.1 v.2.2.2.2.2.2.2.2.2.1 v.2.2.2.2.2.2.2.2.2.2.1 v.2.2.2.2.2.2.2.2.2.2.2.1 v.2.2.2.2.2.2.2.2.2.2.2.2.1 v.2.2.2.2.2.2.2.2.2.2.2.2.2.1 v.2.2.2.2.2.2.2.2.2.2.2.2.2.2.1 v.2.2.2.2.2.2.2.2.2.2.2.2.2.2.2.1 v.2.2.2.2.2.2.2.2.2.2.2.2.2.2.2.2.1 v.2.2.2.2.2.2.2.2.2.2.2.2.2.2.2.2.2.1 v.2.2.2.2.2.2.2.2.2.2.2.2.2.2.2.2.2.2.1 v.2.2.2.2.2.2.2.2.2.2.2.2.2.2.2.2.2.2.2.1 v.2.2.2.2.2.2.2.2.2.2.2.2.2.2.2.2.2.2.2.2.1 v.2.2.2.2.2.2.2.2.2.2.2.2.2.2.2.2.2.2.2.2.2.1⟩
theorem laws_eqServed.eq : ∀ v, evFn laws_eqServed.E f16 laws_eqServed.ent.ptrs laws_eqServed.ent.ins laws_eqServed.ent.rets laws_eqServed.ent.outs v = laws_eqServed.ent.f v := by intro v; kernel_rfl
theorem laws_eqServed.fok : ∀ q ∈ [((48 : Nat), laws_eqQueue.ent)], EntryOK Pr q.1 q.2 := by
 intro q hq
 simp only [List.mem_cons, List.mem_nil_iff, or_false] at hq
 rcases hq with rfl
 · exact laws_eqQueue.ok
theorem laws_eqServed.ls : loopsOf (bodyOf f16) = [] := by kernel_rfl
theorem laws_eqServed.ok : EntryOK Pr 16 laws_eqServed.ent :=
 entry_ok (E := laws_eqServed.E) (EnvOK.of dok laws_eqServed.fok) mixed (fn := f16) (by kernel_rfl) (by kernel_rfl) (by decide) laws_eqServed.ls (by intro l hl; simp at hl) laws_eqServed.eq
/-! ### loop.example/g00038/laws.FnExactReceiveFrame -/
noncomputable def laws_FnExactReceiveFrame.E : Env := ⟨D, [], [(14, laws_toQueue.ent), (13, spec_ReceiveFrame.ent), (15, impl_ReceiveFrame.ent), (16, laws_eqServed.ent)], []⟩
noncomputable def laws_FnExactReceiveFrame (a0 : ByteArray) (a1 : Int) (a2 : Int) (a3 : Int) (a4 : Int) (a5 : Int) (a6 : Int) (a7 : ByteArray) : Option (Bool × Unit) :=
 let b1 : Bool := decide ((a0.size : Int) > 1048576)
 bif b1 then
  some (true, ())
 else
  let b2 : Bool := decide ((a7.size : Int) > 1048576)
  bif b2 then
   some (true, ())
  else
   (laws_toQueue a1 a2 a3 a4 a5 a6).bind fun r3 =>
   (spec_ReceiveFrame a0 r3.1 r3.2.1 r3.2.2.1 r3.2.2.2.1 r3.2.2.2.2.1 r3.2.2.2.2.2.1 a7).bind fun r4 =>
   (laws_toQueue a1 a2 a3 a4 a5 a6).bind fun r5 =>
   (impl_ReceiveFrame a0 r5.1 r5.2.1 r5.2.2.1 r5.2.2.2.1 r5.2.2.2.2.1 r5.2.2.2.2.2.1 a7).bind fun r6 =>
   (laws_eqServed r6.1 r6.2.1 r6.2.2.1 r6.2.2.2.1 r6.2.2.2.2.1 r6.2.2.2.2.2.1 r6.2.2.2.2.2.2.1 r6.2.2.2.2.2.2.2.1 r6.2.2.2.2.2.2.2.2.1 r6.2.2.2.2.2.2.2.2.2.1 r6.2.2.2.2.2.2.2.2.2.2.1 r4.1 r4.2.1 r4.2.2.1 r4.2.2.2.1 r4.2.2.2.2.1 r4.2.2.2.2.2.1 r4.2.2.2.2.2.2.1 r4.2.2.2.2.2.2.2.1 r4.2.2.2.2.2.2.2.2.1 r4.2.2.2.2.2.2.2.2.2.1 r4.2.2.2.2.2.2.2.2.2.2.1).bind fun r7 =>
   bif !r7.1 then
    some (false, ())
   else
    some (true, ())
noncomputable def laws_FnExactReceiveFrame.ent : Entry := ⟨[false, false, false], [.cell (.val .bor (.str)), .agg [.val .bor (.int .i64), .val .bor (.int .i64), .val .bor (.int .i64), .val .bor (.int .i64), .val .bor (.int .i64), .val .bor (.int .i64)], .cell (.val .bor (.str))], [.cell (.val .bor (.bool))], [], fun v => laws_FnExactReceiveFrame v.1 v.2.1 v.2.2.1 v.2.2.2.1 v.2.2.2.2.1 v.2.2.2.2.2.1 v.2.2.2.2.2.2.1 v.2.2.2.2.2.2.2.1⟩
theorem laws_FnExactReceiveFrame.eq : ∀ v, evFn laws_FnExactReceiveFrame.E f4 laws_FnExactReceiveFrame.ent.ptrs laws_FnExactReceiveFrame.ent.ins laws_FnExactReceiveFrame.ent.rets laws_FnExactReceiveFrame.ent.outs v = laws_FnExactReceiveFrame.ent.f v := by intro v; kernel_rfl
theorem laws_FnExactReceiveFrame.fok : ∀ q ∈ [((14 : Nat), laws_toQueue.ent), ((13 : Nat), spec_ReceiveFrame.ent), ((15 : Nat), impl_ReceiveFrame.ent), ((16 : Nat), laws_eqServed.ent)], EntryOK Pr q.1 q.2 := by
 intro q hq
 simp only [List.mem_cons, List.mem_nil_iff, or_false] at hq
 rcases hq with rfl | rfl | rfl | rfl
 · exact laws_toQueue.ok
 · exact spec_ReceiveFrame.ok
 · exact impl_ReceiveFrame.ok
 · exact laws_eqServed.ok
theorem laws_FnExactReceiveFrame.ls : loopsOf (bodyOf f4) = [] := by kernel_rfl
theorem laws_FnExactReceiveFrame.ok : EntryOK Pr 4 laws_FnExactReceiveFrame.ent :=
 entry_ok (E := laws_FnExactReceiveFrame.E) (EnvOK.of dok laws_FnExactReceiveFrame.fok) mixed (fn := f4) (by kernel_rfl) (by kernel_rfl) (by decide) laws_FnExactReceiveFrame.ls (by intro l hl; simp at hl) laws_FnExactReceiveFrame.eq
end Go.Ab.FnExactReceiveFrame