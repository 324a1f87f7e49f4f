/- The functions that the law FnExactSendFrames reaches, over plain values, and that each does what its code does: part 1 of 1. Without conditions. -/
import Derived.Test.YtcljoifconichaaProg
import Derived.Test.YtcljoifconichaaAbD
namespace Go.Ab.FnExactSendFrames
open Go.RowKit
set_option linter.unusedVariables false
set_option maxRecDepth 100000
noncomputable def tds : List (Option TD) := [
  none,
  some ⟨.other, 1, .opq, 8, false⟩,
  some ⟨.int .i64, 1, .int .i64, 8, false⟩,
  some ⟨.int .i64, 1, .int .i64, 8, false⟩,
  some ⟨.bool, 1, .bool, 1, false⟩,
  some ⟨.int .u8, 1, .int .u8, 1, false⟩,
  some ⟨.int .u8, 1, .int .u8, 1, false⟩,
  some ⟨.struct [(0, 2), (1, 3), (2, 4), (3, 6)], 4, .pair (.int .i64) (.pair (.int .i64) (.pair (.bool) (.int .u8))), 24, true⟩,
  some ⟨.struct [(0, 2), (1, 3), (2, 4), (3, 6)], 4, .pair (.int .i64) (.pair (.int .i64) (.pair (.bool) (.int .u8))), 24, true⟩,
  some ⟨.str, 1, .str, 16, false⟩,
  some ⟨.str, 1, .str, 16, false⟩,
  some ⟨.str, 1, .str, 16, false⟩,
  some ⟨.int .u64, 1, .int .u64, 8, false⟩,
  none,
  none,
  some ⟨.ptr 135, 1, .opq, 8, false⟩,
  some ⟨.ptr 138, 1, .opq, 8, false⟩,
  some ⟨.ptr 147, 1, .opq, 8, false⟩,
  some ⟨.struct [(0, 17)], 1, .opq, 8, true⟩,
  some ⟨.struct [(0, 17)], 1, .opq, 8, true⟩,
  none,
  some ⟨.int .i32, 1, .int .i32, 4, false⟩,
  some ⟨.struct [(0, 2), (1, 2), (2, 2), (3, 4)], 4, .pair (.int .i64) (.pair (.int .i64) (.pair (.int .i64) (.bool))), 32, true⟩,
  some ⟨.struct [(0, 2), (1, 2), (2, 2), (3, 4)], 4, .pair (.int .i64) (.pair (.int .i64) (.pair (.int .i64) (.bool))), 32, true⟩,
  some ⟨.struct [(0, 2), (1, 2), (2, 2), (3, 4)], 4, .pair (.int .i64) (.pair (.int .i64) (.pair (.int .i64) (.bool))), 32, true⟩,
  some ⟨.slice 9, 1, .slice (.str), 24, false⟩,
  some ⟨.struct [(0, 2), (1, 9), (2, 24), (6, 25)], 7, .pair (.int .i64) (.pair (.str) (.pair (.int .i64) (.pair (.int .i64) (.pair (.int .i64) (.pair (.bool) (.slice (.str))))))), 80, true⟩,
  some ⟨.struct [(0, 2), (1, 9), (2, 24), (6, 25)], 7, .pair (.int .i64) (.pair (.str) (.pair (.int .i64) (.pair (.int .i64) (.pair (.int .i64) (.pair (.bool) (.slice (.str))))))), 80, true⟩,
  some ⟨.other, 1, .opq, 8, false⟩,
  some ⟨.other, 1, .opq, 8, false⟩,
  some ⟨.other, 1, .opq, 8, false⟩,
  some ⟨.other, 1, .opq, 8, false⟩,
  some ⟨.other, 1, .opq, 8, false⟩,
  some ⟨.struct [(0, 2), (1, 2), (2, 2), (3, 2), (4, 2), (5, 2)], 6, .pair (.int .i64) (.pair (.int .i64) (.pair (.int .i64) (.pair (.int .i64) (.pair (.int .i64) (.int .i64))))), 48, true⟩,
  some ⟨.struct [(0, 2), (1, 2), (2, 2), (3, 2), (4, 2), (5, 2)], 6, .pair (.int .i64) (.pair (.int .i64) (.pair (.int .i64) (.pair (.int .i64) (.pair (.int .i64) (.int .i64))))), 48, true⟩,
  some ⟨.struct [(0, 2), (1, 2), (2, 2), (3, 2), (4, 2), (5, 2)], 6, .pair (.int .i64) (.pair (.int .i64) (.pair (.int .i64) (.pair (.int .i64) (.pair (.int .i64) (.int .i64))))), 48, true⟩,
  some ⟨.struct [(0, 2), (1, 9), (2, 35), (8, 9), (9, 2), (10, 4)], 11, .pair (.int .i64) (.pair (.str) (.pair (.int .i64) (.pair (.int .i64) (.pair (.int .i64) (.pair (.int .i64) (.pair (.int .i64) (.pair (.int .i64) (.pair (.str) (.pair (.int .i64) (.bool)))))))))), 104, true⟩,
  some ⟨.struct [(0, 2), (1, 9), (2, 35), (8, 9), (9, 2), (10, 4)], 11, .pair (.int .i64) (.pair (.str) (.pair (.int .i64) (.pair (.int .i64) (.pair (.int .i64) (.pair (.int .i64) (.pair (.int .i64) (.pair (.int .i64) (.pair (.str) (.pair (.int .i64) (.bool)))))))))), 104, true⟩,
  some ⟨.other, 1, .opq, 8, false⟩,
  some ⟨.other, 1, .opq, 8, false⟩,
  some ⟨.other, 1, .opq, 8, false⟩,
  some ⟨.other, 1, .opq, 8, false⟩,
  some ⟨.slice 5, 1, .slice (.int .u8), 24, false⟩,
  some ⟨.other, 1, .opq, 8, false⟩,
  some ⟨.other, 1, .opq, 8, false⟩,
  some ⟨.struct [(0, 2), (1, 9), (2, 35), (8, 4)], 9, .pair (.int .i64) (.pair (.str) (.pair (.int .i64) (.pair (.int .i64) (.pair (.int .i64) (.pair (.int .i64) (.pair (.int .i64) (.pair (.int .i64) (.bool)))))))), 80, true⟩,
  some ⟨.struct [(0, 2), (1, 9), (2, 35), (8, 4)], 9, .pair (.int .i64) (.pair (.str) (.pair (.int .i64) (.pair (.int .i64) (.pair (.int .i64) (.pair (.int .i64) (.pair (.int .i64) (.pair (.int .i64) (.bool)))))))), 80, true⟩,
  some ⟨.other, 1, .opq, 8, false⟩,
  some ⟨.struct [(0, 2), (1, 2), (2, 4)], 3, .pair (.int .i64) (.pair (.int .i64) (.bool)), 24, true⟩,
  some ⟨.struct [(0, 2), (1, 2), (2, 4)], 3, .pair (.int .i64) (.pair (.int .i64) (.bool)), 24, true⟩,
  some ⟨.slice 49, 1, .slice (.pair (.int .i64) (.pair (.int .i64) (.bool))), 24, false⟩,
  some ⟨.other, 1, .opq, 8, false⟩,
  some ⟨.other, 1, .opq, 8, false⟩,
  none,
  some ⟨.other, 1, .opq, 8, false⟩,
  some ⟨.struct [(0, 2), (1, 2), (2, 50), (3, 35)], 9, .pair (.int .i64) (.pair (.int .i64) (.pair (.slice (.pair (.int .i64) (.pair (.int .i64) (.bool)))) (.pair (.int .i64) (.pair (.int .i64) (.pair (.int .i64) (.pair (.int .i64) (.pair (.int .i64) (.int .i64)))))))), 88, true⟩,
  some ⟨.struct [(0, 2), (1, 2), (2, 50), (3, 35)], 9, .pair (.int .i64) (.pair (.int .i64) (.pair (.slice (.pair (.int .i64) (.pair (.int .i64) (.bool)))) (.pair (.int .i64) (.pair (.int .i64) (.pair (.int .i64) (.pair (.int .i64) (.pair (.int .i64) (.int .i64)))))))), 88, true⟩,
  some ⟨.other, 1, .opq, 8, false⟩,
  some ⟨.other, 1, .opq, 8, false⟩,
  some ⟨.struct [(0, 4), (1, 2)], 2, .pair (.bool) (.int .i64), 16, true⟩,
  some ⟨.struct [(0, 4), (1, 2)], 2, .pair (.bool) (.int .i64), 16, true⟩,
  some ⟨.other, 1, .opq, 8, false⟩,
  some ⟨.other, 1, .opq, 8, false⟩,
  some ⟨.other, 1, .opq, 8, false⟩,
  some ⟨.struct [(0, 2), (1, 2), (2, 2), (3, 50)], 4, .pair (.int .i64) (.pair (.int .i64) (.pair (.int .i64) (.slice (.pair (.int .i64) (.pair (.int .i64) (.bool)))))), 48, true⟩,
  some ⟨.struct [(0, 2), (1, 2), (2, 2), (3, 50)], 4, .pair (.int .i64) (.pair (.int .i64) (.pair (.int .i64) (.slice (.pair (.int .i64) (.pair (.int .i64) (.bool)))))), 48, true⟩,
  some ⟨.other, 1, .opq, 8, false⟩,
  some ⟨.other, 1, .opq, 8, false⟩,
  some ⟨.struct [(0, 2), (1, 9), (2, 24)], 6, .pair (.int .i64) (.pair (.str) (.pair (.int .i64) (.pair (.int .i64) (.pair (.int .i64) (.bool))))), 56, true⟩,
  some ⟨.struct [(0, 2), (1, 9), (2, 24)], 6, .pair (.int .i64) (.pair (.str) (.pair (.int .i64) (.pair (.int .i64) (.pair (.int .i64) (.bool))))), 56, true⟩,
  some ⟨.other, 1, .opq, 8, false⟩,
  some ⟨.other, 1, .opq, 8, false⟩,
  none,
  some ⟨.other, 1, .opq, 8, false⟩,
  some ⟨.other, 1, .opq, 8, false⟩,
  some ⟨.other, 1, .opq, 8, false⟩,
  some ⟨.other, 1, .opq, 8, false⟩,
  some ⟨.other, 1, .opq, 8, false⟩,
  some ⟨.other, 1, .opq, 8, false⟩,
  some ⟨.other, 1, .opq, 8, false⟩,
  some ⟨.other, 1, .opq, 8, false⟩,
  some ⟨.other, 1, .opq, 8, false⟩,
  some ⟨.other, 1, .opq, 8, false⟩,
  some ⟨.other, 1, .opq, 8, false⟩,
  some ⟨.other, 1, .opq, 8, false⟩,
  some ⟨.other, 1, .opq, 8, false⟩,
  some ⟨.other, 1, .opq, 8, false⟩,
  some ⟨.other, 1, .opq, 8, false⟩,
  some ⟨.ptr 90, 1, .opq, 8, false⟩,
  some ⟨.struct [(0, 42), (1, 9)], 2, .pair (.slice (.int .u8)) (.str), 40, true⟩,
  some ⟨.struct [(0, 42), (1, 9)], 2, .pair (.slice (.int .u8)) (.str), 40, true⟩,
  none,
  none,
  none,
  some ⟨.other, 1, .opq, 8, false⟩,
  some ⟨.ptr 125, 1, .opq, 8, false⟩,
  some ⟨.other, 1, .opq, 8, false⟩,
  none,
  some ⟨.other, 1, .opq, 8, false⟩,
  some ⟨.other, 1, .opq, 8, false⟩,
  none,
  some ⟨.other, 1, .opq, 8, false⟩,
  some ⟨.other, 1, .opq, 8, false⟩,
  some ⟨.other, 1, .opq, 8, false⟩,
  some ⟨.struct [(0, 2), (1, 50)], 2, .pair (.int .i64) (.slice (.pair (.int .i64) (.pair (.int .i64) (.bool)))), 32, true⟩,
  some ⟨.struct [(0, 2), (1, 50)], 2, .pair (.int .i64) (.slice (.pair (.int .i64) (.pair (.int .i64) (.bool)))), 32, true⟩,
  some ⟨.other, 1, .opq, 8, false⟩,
  some ⟨.other, 1, .opq, 8, false⟩,
  some ⟨.other, 1, .opq, 8, false⟩,
  some ⟨.other, 1, .opq, 8, false⟩,
  some ⟨.other, 1, .opq, 8, false⟩,
  some ⟨.arr 4 2, 4, .pair (.int .i64) (.pair (.int .i64) (.pair (.int .i64) (.int .i64))), 32, true⟩,
  some ⟨.arr 4 2, 4, .pair (.int .i64) (.pair (.int .i64) (.pair (.int .i64) (.int .i64))), 32, true⟩,
  some ⟨.other, 1, .opq, 8, false⟩,
  none,
  some ⟨.other, 1, .opq, 8, false⟩,
  some ⟨.other, 1, .opq, 8, false⟩,
  some ⟨.other, 1, .opq, 8, false⟩,
  some ⟨.other, 1, .opq, 8, false⟩,
  some ⟨.slice 2, 1, .slice (.int .i64), 24, false⟩,
  some ⟨.other, 1, .opq, 8, false⟩,
  some ⟨.other, 1, .opq, 8, false⟩,
  some ⟨.int .u64, 1, .int .u64, 8, false⟩,
  some ⟨.int .u64, 1, .int .u64, 8, false⟩,
  some ⟨.struct [(0, 42), (1, 3), (2, 123), (3, 2)], 4, .pair (.slice (.int .u8)) (.pair (.int .i64) (.pair (.int .u64) (.int .i64))), 48, true⟩,
  some ⟨.struct [(0, 42), (1, 3), (2, 123), (3, 2)], 4, .pair (.slice (.int .u8)) (.pair (.int .i64) (.pair (.int .u64) (.int .i64))), 48, true⟩,
  some ⟨.other, 1, .opq, 8, false⟩,
  some ⟨.other, 1, .opq, 8, false⟩,
  some ⟨.other, 1, .opq, 8, false⟩,
  some ⟨.other, 1, .opq, 8, false⟩,
  some ⟨.other, 1, .opq, 8, false⟩,
  some ⟨.other, 1, .opq, 8, false⟩,
  some ⟨.int .u32, 1, .int .u32, 4, false⟩,
  some ⟨.other, 1, .opq, 8, false⟩,
  some ⟨.struct [(0, 17), (1, 17), (2, 17), (3, 9)], 4, .pair (.opq) (.pair (.opq) (.pair (.opq) (.str))), 40, true⟩,
  some ⟨.struct [(0, 17), (1, 17), (2, 17), (3, 9)], 4, .pair (.opq) (.pair (.opq) (.pair (.opq) (.str))), 40, true⟩,
  none,
  none,
  none,
  some ⟨.other, 1, .opq, 8, false⟩,
  some ⟨.int .u8, 1, .int .u8, 1, false⟩,
  some ⟨.int .u8, 1, .int .u8, 1, false⟩,
  some ⟨.other, 1, .opq, 8, false⟩,
  some ⟨.ptr 5, 1, .opq, 8, false⟩,
  some ⟨.int .i32, 1, .int .i32, 4, false⟩,
  some ⟨.int .i32, 1, .int .i32, 4, false⟩,
  some ⟨.struct [(0, 12), (1, 12), (2, 132), (3, 140), (4, 5), (5, 5), (6, 141), (7, 142), (8, 143), (9, 144), (10, 145)], 11, .pair (.int .u64) (.pair (.int .u64) (.pair (.int .u32) (.pair (.int .u8) (.pair (.int .u8) (.pair (.int .u8) (.pair (.int .u8) (.pair (.opq) (.pair (.opq) (.pair (.int .i32) (.int .i32)))))))))), 48, true⟩,
  some ⟨.struct [(0, 12), (1, 12), (2, 132), (3, 140), (4, 5), (5, 5), (6, 141), (7, 142), (8, 143), (9, 144), (10, 145)], 11, .pair (.int .u64) (.pair (.int .u64) (.pair (.int .u32) (.pair (.int .u8) (.pair (.int .u8) (.pair (.int .u8) (.pair (.int .u8) (.pair (.opq) (.pair (.opq) (.pair (.int .i32) (.int .i32)))))))))), 48, true⟩,
  some ⟨.other, 1, .opq, 8, false⟩,
  none,
  some ⟨.other, 1, .opq, 8, false⟩,
  none,
  some ⟨.other, 1, .opq, 8, false⟩,
  some ⟨.other, 1, .opq, 8, false⟩,
  some ⟨.ptr 156, 1, .opq, 8, false⟩,
  some ⟨.struct [(0, 154), (1, 42)], 2, .pair (.opq) (.slice (.int .u8)), 32, true⟩,
  some ⟨.struct [(0, 154), (1, 42)], 2, .pair (.opq) (.slice (.int .u8)), 32, true⟩,
  some ⟨.other, 1, .opq, 8, false⟩,
  none,
  none,
  none,
  some ⟨.other, 1, .opq, 8, false⟩,
  none,
  some ⟨.other, 1, .opq, 8, false⟩,
  none,
  some ⟨.other, 1, .opq, 8, false⟩,
  some ⟨.other, 1, .opq, 8, false⟩,
  some ⟨.other, 1, .opq, 8, false⟩,
  some ⟨.other, 1, .opq, 8, false⟩]
noncomputable def D : TypeId → Option TD := nthD tds
noncomputable abbrev Pr : Program := Go.Proofs.Try.prog
theorem tdsOk : okTds Pr (nthD tds) 0 tds = true := by kernel_rfl
theorem dok : Dok Pr D := dok_of tdsOk
theorem mixed : Pr.follows .mixedOrders = true := by kernel_rfl
abbrev R1 : Ty := .pair (.int .i64) (.pair (.int .i64) (.bool))
abbrev V1 : Type := Int × Int × Bool
noncomputable abbrev f3 : Func := Go.Proofs.Try.f3
noncomputable abbrev f7 : Func := Go.Proofs.Try.f7
noncomputable abbrev f8 : Func := Go.Proofs.Try.f8
noncomputable abbrev f9 : Func := Go.Proofs.Try.f9
noncomputable abbrev f10 : Func := Go.Proofs.Try.f10
noncomputable abbrev f11 : Func := Go.Proofs.Try.f11
noncomputable abbrev f12 : Func := Go.Proofs.Try.f12
noncomputable abbrev f18 : Func := Go.Proofs.Try.f18
noncomputable abbrev f24 : Func := Go.Proofs.Try.f24
noncomputable abbrev f25 : Func := Go.Proofs.Try.f25
noncomputable abbrev f26 : Func := Go.Proofs.Try.f26
noncomputable abbrev f27 : Func := Go.Proofs.Try.f27
noncomputable abbrev f28 : Func := Go.Proofs.Try.f28
noncomputable abbrev f29 : Func := Go.Proofs.Try.f29
noncomputable abbrev f30 : Func := Go.Proofs.Try.f30
noncomputable abbrev f31 : Func := Go.Proofs.Try.f31
noncomputable abbrev f32 : Func := Go.Proofs.Try.f32
noncomputable abbrev f33 : Func := Go.Proofs.Try.f33
noncomputable abbrev f34 : Func := Go.Proofs.Try.f34
noncomputable abbrev f35 : Func := Go.Proofs.Try.f35
noncomputable abbrev f36 : Func := Go.Proofs.Try.f36
noncomputable abbrev f37 : Func := Go.Proofs.Try.f37
noncomputable abbrev f38 : Func := Go.Proofs.Try.f38
noncomputable abbrev f43 : Func := Go.Proofs.Try.f43
noncomputable abbrev f49 : Func := Go.Proofs.Try.f49
noncomputable abbrev f50 : Func := Go.Proofs.Try.f50
noncomputable abbrev f52 : Func := Go.Proofs.Try.f52
noncomputable abbrev f62 : Func := Go.Proofs.Try.f62
noncomputable abbrev f64 : Func := Go.Proofs.Try.f64
noncomputable abbrev f65 : Func := Go.Proofs.Try.f65
noncomputable abbrev f66 : Func := Go.Proofs.Try.f66
noncomputable abbrev f67 : Func := Go.Proofs.Try.f67
noncomputable abbrev f68 : Func := Go.Proofs.Try.f68
noncomputable abbrev f69 : Func := Go.Proofs.Try.f69
noncomputable abbrev f70 : Func := Go.Proofs.Try.f70
noncomputable abbrev f71 : Func := Go.Proofs.Try.f71
noncomputable abbrev f72 : Func := Go.Proofs.Try.f72
noncomputable abbrev f73 : Func := Go.Proofs.Try.f73
noncomputable abbrev f76 : Func := Go.Proofs.Try.f76
noncomputable abbrev f78 : Func := Go.Proofs.Try.f78
noncomputable abbrev f79 : Func := Go.Proofs.Try.f79
noncomputable abbrev f80 : Func := Go.Proofs.Try.f80
noncomputable abbrev f83 : Func := Go.Proofs.Try.f83
noncomputable abbrev f87 : Func := Go.Proofs.Try.f87
noncomputable abbrev f88 : Func := Go.Proofs.Try.f88
noncomputable abbrev f89 : Func := Go.Proofs.Try.f89
noncomputable abbrev f90 : Func := Go.Proofs.Try.f90
/-! ### loop.example/g00038/laws.toPacked -/
noncomputable def laws_toPacked.E : Env := ⟨D, [], [], []⟩
noncomputable def laws_toPacked (a0 : Int) (a1 : Int) (a2 : Int) (a3 : Bool) : Option (Int × Int × Int × Bool × Unit) :=
 some (a0, a1, a2, a3, ())
noncomputable def laws_toPacked.ent : Entry := ⟨[false], [.agg [.val .bor (.int .i64), .val .bor (.int .i64), .val .bor (.int .i64), .val .bor (.bool)]], [.agg [.val .bor (.int .i64), .val .bor (.int .i64), .val .bor (.int .i64), .val .bor (.bool)]], [], fun v => laws_toPacked v.1 v.2.1 v.2.2.1 v.2.2.2.1⟩
theorem laws_toPacked.eq : ∀ v, evFn laws_toPacked.E f8 laws_toPacked.ent.ptrs laws_toPacked.ent.ins laws_toPacked.ent.rets laws_toPacked.ent.outs v = laws_toPacked.ent.f v := by intro v; kernel_rfl
theorem laws_toPacked.fok : ∀ q ∈ ([] : List (Nat × Entry)), EntryOK Pr q.1 q.2 := by intro q hq; simp at hq
theorem laws_toPacked.ls : loopsOf (bodyOf f8) = [] := by kernel_rfl
theorem laws_toPacked.ok : EntryOK Pr 8 laws_toPacked.ent :=
 entry_ok (E := laws_toPacked.E) (EnvOK.of dok laws_toPacked.fok) mixed (fn := f8) (by kernel_rfl) (by kernel_rfl) (by decide) laws_toPacked.ls (by intro l hl; simp at hl) laws_toPacked.eq
/-! ### loop.example/g00038/spec.MemFault -/
noncomputable def spec_MemFault.E : Env := ⟨D, [], [], []⟩
noncomputable def spec_MemFault (a0 : ByteArray) : Option (Int × Unit) :=
 let x1 : Int := (Int.tmod (a0.size : Int) 256)
 let b2 : Bool := (((a0.size : Int) == 0) || (x1 != 0))
 let b3 : Bool := decide ((a0.size : Int) > 65536)
 bif (!(!((a0.size : Int) == 0)) || (!((256 : Int) == 0))) then
  bif (b2 || b3) then
   some (1, ())
  else
   some (0, ())
 else none
noncomputable def spec_MemFault.ent : Entry := ⟨[false], [.cell (.val .bor (.str))], [.cell (.val .bor (.int .i64))], [], fun v => spec_MemFault v.1⟩
theorem spec_MemFault.eq : ∀ v, evFn spec_MemFault.E f65 spec_MemFault.ent.ptrs spec_MemFault.ent.ins spec_MemFault.ent.rets spec_MemFault.ent.outs v = spec_MemFault.ent.f v := by intro v; kernel_rfl
theorem spec_MemFault.fok : ∀ q ∈ ([] : List (Nat × Entry)), EntryOK Pr q.1 q.2 := by intro q hq; simp at hq
theorem spec_MemFault.ls : loopsOf (bodyOf f65) = [] := by kernel_rfl
theorem spec_MemFault.ok : EntryOK Pr 65 spec_MemFault.ent :=
 entry_ok (E := spec_MemFault.E) (EnvOK.of dok spec_MemFault.fok) mixed (fn := f65) (by kernel_rfl) (by kernel_rfl) (by decide) spec_MemFault.ls (by intro l hl; simp at hl) spec_MemFault.eq
/-! ### loop.example/g00038/spec.l10In -/
noncomputable def spec_l10In.E : Env := ⟨D, [], [], []⟩
noncomputable def spec_l10In (a0 : ByteArray) (a1 : Int) (a2 : Int) : Option (Bool × Unit) :=
 let b1 : Bool := (decide (a1 ≥ 0) && decide (a2 ≥ 0))
 let b2 : Bool := decide (a1 ≤ (a0.size : Int))
 let x3 : Int := (wrap64 ((a0.size : Int) - a1))
 let b4 : Bool := ((b1 && b2) && decide (a2 ≤ x3))
 some (b4, ())
noncomputable def spec_l10In.ent : Entry := ⟨[false, false, false], [.cell (.val .bor (.str)), .cell (.val .bor (.int .i64)), .cell (.val .bor (.int .i64))], [.cell (.val .bor (.bool))], [], fun v => spec_l10In v.1 v.2.1 v.2.2.1⟩
theorem spec_l10In.eq : ∀ v, evFn spec_l10In.E f66 spec_l10In.ent.ptrs spec_l10In.ent.ins spec_l10In.ent.rets spec_l10In.ent.outs v = spec_l10In.ent.f v := by intro v; kernel_rfl
theorem spec_l10In.fok : ∀ q ∈ ([] : List (Nat × Entry)), EntryOK Pr q.1 q.2 := by intro q hq; simp at hq
theorem spec_l10In.ls : loopsOf (bodyOf f66) = [] := by kernel_rfl
theorem spec_l10In.ok : EntryOK Pr 66 spec_l10In.ent :=
 entry_ok (E := spec_l10In.E) (EnvOK.of dok spec_l10In.fok) mixed (fn := f66) (by kernel_rfl) (by kernel_rfl) (by decide) spec_l10In.ls (by intro l hl; simp at hl) spec_l10In.eq
/-! ### loop.example/g00038/spec.PackedFault -/
noncomputable def spec_PackedFault.E : Env := ⟨D, [], [(65, spec_MemFault.ent), (66, spec_l10In.ent)], []⟩
noncomputable def spec_PackedFault (a0 : ByteArray) (a1 : Int) (a2 : Int) (a3 : Int) (a4 : Bool) : Option (Int × Unit) :=
 (spec_MemFault a0).bind fun r1 =>
 let b2 : Bool := ((r1.1 != 0) || decide (a1 < 1))
 let b3 : Bool := ((b2 || decide (a1 > 16)) || ((Int.tmod a2 4) != 0))
 let x4 : Int := (wrap64 ((16 : Int) * a1))
 let r5 : Bool × Unit := (spec_l10In a0 a2 x4).getD (false, ())
 let b6 : Bool := ((b3 || !r5.1) || decide (a3 < 0))
 bif (!(!(b2 || decide (a1 > 16))) || (!((4 : Int) == 0))) && (!(!b3) || ((spec_l10In a0 a2 x4).isSome)) then
  bif (b6 || decide (a3 ≥ a1)) then
   some (1, ())
  else
   some (0, ())
 else none
noncomputable def spec_PackedFault.ent : Entry := ⟨[false, false], [.cell (.val .bor (.str)), .agg [.val .bor (.int .i64), .val .bor (.int .i64), .val .bor (.int .i64), .val .bor (.bool)]], [.cell (.val .bor (.int .i64))], [], fun v => spec_PackedFault v.1 v.2.1 v.2.2.1 v.2.2.2.1 v.2.2.2.2.1⟩
theorem spec_PackedFault.eq : ∀ v, evFn spec_PackedFault.E f26 spec_PackedFault.ent.ptrs spec_PackedFault.ent.ins spec_PackedFault.ent.rets spec_PackedFault.ent.outs v = spec_PackedFault.ent.f v := by intro v; kernel_rfl
theorem spec_PackedFault.fok : ∀ q ∈ [((65 : Nat), spec_MemFault.ent), ((66 : Nat), spec_l10In.ent)], EntryOK Pr q.1 q.2 := by
 intro q hq
 simp only [List.mem_cons, List.mem_nil_iff, or_false] at hq
 rcases hq with rfl | rfl
 · exact spec_MemFault.ok
 · exact spec_l10In.ok
theorem spec_PackedFault.ls : loopsOf (bodyOf f26) = [] := by kernel_rfl
theorem spec_PackedFault.ok : EntryOK Pr 26 spec_PackedFault.ent :=
 entry_ok (E := spec_PackedFault.E) (EnvOK.of dok spec_PackedFault.fok) mixed (fn := f26) (by kernel_rfl) (by kernel_rfl) (by decide) spec_PackedFault.ls (by intro l hl; simp at hl) spec_PackedFault.eq
/-! ### loop.example/g00038/spec.l01Word -/
noncomputable def spec_l01Word.E : Env := ⟨D, [], [], []⟩
noncomputable def spec_l01Word (a0 : ByteArray) (a1 : Int) : Option (Int × Unit) :=
 let x1 : Int := (wrap64 (bt a0 (wrap64 (a1 + 1))))
 let x2 : Int := (wrap64 ((wrap64 (bt a0 a1)) + shl .i64 x1 8))
 let x3 : Int := (wrap64 (bt a0 (wrap64 (a1 + 2))))
 let x4 : Int := (wrap64 (x2 + shl .i64 x3 16))
 let x5 : Int := (wrap64 (bt a0 (wrap64 (a1 + 3))))
 let x6 : Int := (wrap64 (x4 + shl .i64 x5 24))
 bif (decide (0 ≤ a1) && decide (a1 < (a0.size : Int))) && ((decide (0 ≤ (wrap64 (a1 + 1))) && decide ((wrap64 (a1 + 1)) < (a0.size : Int))) && ((decide (0 ≤ (8 : Int))) && ((decide (0 ≤ (wrap64 (a1 + 2))) && decide ((wrap64 (a1 + 2)) < (a0.size : Int))) && ((decide (0 ≤ (16 : Int))) && ((decide (0 ≤ (wrap64 (a1 + 3))) && decide ((wrap64 (a1 + 3)) < (a0.size : Int))) && (decide (0 ≤ (24 : Int)))))))) then
  some (x6, ())
 else none
noncomputable def spec_l01Word.ent : Entry := ⟨[false, false], [.cell (.val .bor (.str)), .cell (.val .bor (.int .i64))], [.cell (.val .bor (.int .i64))], [], fun v => spec_l01Word v.1 v.2.1⟩
theorem spec_l01Word.eq : ∀ v, evFn spec_l01Word.E f52 spec_l01Word.ent.ptrs spec_l01Word.ent.ins spec_l01Word.ent.rets spec_l01Word.ent.outs v = spec_l01Word.ent.f v := by intro v; kernel_rfl
theorem spec_l01Word.fok : ∀ q ∈ ([] : List (Nat × Entry)), EntryOK Pr q.1 q.2 := by intro q hq; simp at hq
theorem spec_l01Word.ls : loopsOf (bodyOf f52) = [] := by kernel_rfl
theorem spec_l01Word.ok : EntryOK Pr 52 spec_l01Word.ent :=
 entry_ok (E := spec_l01Word.E) (EnvOK.of dok spec_l01Word.fok) mixed (fn := f52) (by kernel_rfl) (by kernel_rfl) (by decide) spec_l01Word.ls (by intro l hl; simp at hl) spec_l01Word.eq
/-! ### loop.example/g00038/spec.l10Buf -/
noncomputable def spec_l10Buf.E : Env := ⟨D, [], [(66, spec_l10In.ent)], []⟩
noncomputable def spec_l10Buf (a0 : ByteArray) (a1 : List V1) (a2 : Int) (a3 : Int) (a4 : Bool) : Option (Int × Unit) :=
 (spec_l10In a0 a2 a3).bind fun r1 =>
 bif !r1.1 then
  some (2, ())
 else
  let b2 : Bool := decide ((a1.length : Int) > 0)
  let x3 : Int := (wrap64 ((a1.length : Int) - 1))
  let e4 : V1 := rd R1 a1 x3
  bif (!b2 || (decide (0 ≤ x3) && decide (x3 < (a1.length : Int)))) then
   bif ((b2 && e4.2.2) && !a4) then
    some (6, ())
   else
    some (0, ())
  else none
noncomputable def spec_l10Buf.ent : Entry := ⟨[false, false, false], [.cell (.val .bor (.str)), .cell (.val .bor (.slice R1)), .agg [.val .bor (.int .i64), .val .bor (.int .i64), .val .bor (.bool)]], [.cell (.val .bor (.int .i64))], [], fun v => spec_l10Buf v.1 v.2.1 v.2.2.1 v.2.2.2.1 v.2.2.2.2.1⟩
theorem spec_l10Buf.eq : ∀ v, evFn spec_l10Buf.E f67 spec_l10Buf.ent.ptrs spec_l10Buf.ent.ins spec_l10Buf.ent.rets spec_l10Buf.ent.outs v = spec_l10Buf.ent.f v := by intro v; kernel_rfl
theorem spec_l10Buf.fok : ∀ q ∈ [((66 : Nat), spec_l10In.ent)], EntryOK Pr q.1 q.2 := by
 intro q hq
 simp only [List.mem_cons, List.mem_nil_iff, or_false] at hq
 rcases hq with rfl
 · exact spec_l10In.ok
theorem spec_l10Buf.ls : loopsOf (bodyOf f67) = [] := by kernel_rfl
theorem spec_l10Buf.ok : EntryOK Pr 67 spec_l10Buf.ent :=
 entry_ok (E := spec_l10Buf.E) (EnvOK.of dok spec_l10Buf.fok) mixed (fn := f67) (by kernel_rfl) (by kernel_rfl) (by decide) spec_l10Buf.ls (by intro l hl; simp at hl) spec_l10Buf.eq
/-! ### loop.example/g00038/spec.TakePacked -/
noncomputable def spec_TakePacked.E6 : Env := ⟨D, [], [(26, spec_PackedFault.ent), (52, spec_l01Word.ent), (67, spec_l10Buf.ent)], []⟩
noncomputable def spec_TakePacked_l6_step (rec : ByteArray → Int → Int → Int → Bool → Int → Int → Int → Int → Int → Int → List V1 → Option ((Int × Int × Int × List V1 × Unit))) (y0 : ByteArray) (y1 : Int) (y2 : Int) (y3 : Int) (y4 : Bool) (y5 : Int) (y6 : Int) (y7 : Int) (y8 : Int) (y9 : Int) (y10 : Int) (y11 : List V1) : Option ((Int × Int × Int × List V1 × Unit)) :=
 let x20 : Int := (Int.tmod (wrap64 (y3 + y10)) y1)
 let x21 : Int := (wrap64 ((16 : Int) * x20))
 bif !(y1 == 0) then
  let x22 : Int := (wrap64 ((wrap64 (y2 + x21)) + 8))
  (spec_l01Word y0 x22).bind fun r23 =>
  let x24 : Int := (bits .and .i64 r23.1 128)
  let x25 : Int := (bits .and .i64 r23.1 32768)
  let b26 : Bool := (!((x24 != 0) == y4) || ((x25 != 0) == y4))
  bif ((y10 == 0) && b26) then
   some (5, 0, 0, [], ())
  else
   let b27 : Bool := decide ((wrap64 (y10 + 1)) > y1)
   bif b27 then
    some (9, 0, 0, [], ())
   else
    let b28 : Bool := ((bits .and .i64 r23.1 4) != 0)
    bif b28 then
     some (3, 0, 0, [], ())
    else
     (spec_l01Word y0 (wrap64 (y2 + x21))).bind fun r29 =>
     let x30 : Int := (wrap64 ((wrap64 (y2 + x21)) + 4))
     (spec_l01Word y0 x30).bind fun r31 =>
     let b32 : Bool := ((bits .and .i64 r23.1 2) != 0)
     (spec_l10Buf y0 y11 r29.1 r31.1 b32).bind fun r33 =>
     bif (r33.1 != 0) then
      some (r33.1, 0, 0, [], ())
     else
      let l34 : List V1 := (y11 ++ [(r29.1, r31.1, b32)])
      bif roomy ((y11.length : Int) + ([(r29.1, r31.1, b32)].length : Int)) 24 then
       let b35 : Bool := ((bits .and .i64 r23.1 1) == 0)
       bif b35 then
        let x36 : Int := (wrap64 ((wrap64 (y2 + x21)) + 12))
        (spec_l01Word y0 x36).bind fun r37 =>
        bif !((65536 : Int) == 0) then
         some (y8, (Int.tmod r37.1 65536), (wrap64 (y10 + 1)), l34, ())
        else none
       else
        rec y0 y1 y2 y3 y4 y5 y6 y7 y8 y9 (wrap64 (y10 + 1)) l34
      else none
 else none
noncomputable def spec_TakePacked_l6 : Nat → ByteArray → Int → Int → Int → Bool → Int → Int → Int → Int → Int → Int → List V1 → Option ((Int × Int × Int × List V1 × Unit))
 | 0 => fun _ _ _ _ _ _ _ _ _ _ _ _ => none
 | n + 1 => spec_TakePacked_l6_step (spec_TakePacked_l6 n)
noncomputable def spec_TakePacked_l6.ent : LEntry := ⟨(.cell (.val .bor (.str)) :: (sk 2 (.cell (.fix (.ptr 3 0)) :: (.cell (.fix (.ptr 4 0)) :: (.cell (.fix (.ptr 5 0)) :: (sk 100 [])))))), rk 3 ([.val .bor (.int .i64), .val .bor (.int .i64), .val .bor (.int .i64), .val .bor (.bool)] :: ([.val .bor (.int .i64), .val .bor (.int .i64), .val .bor (.int .i64), .fix (.nil)] :: ([.val .bor (.int .i64), .val .bor (.int .i64), .val .bor (.int .i64), .val .own (.slice R1)] :: (rk 100 [])))), [], [(5, 3, true, .pair (.int .i64) (.pair (.int .i64) (.bool)))], [⟨none, sk 4 (.cell (.fix (.ptr 4 0)) :: (sk 101 [])), rk 4 ([.val .bor (.int .i64), .val .bor (.int .i64), .val .bor (.int .i64), .val .own (.slice R1)] :: (rk 101 [])), [], [(4, 3, true, .pair (.int .i64) (.pair (.int .i64) (.bool)))]⟩], fun v => spec_TakePacked_l6 K0 v.1 v.2.1 v.2.2.1 v.2.2.2.1 v.2.2.2.2.1 v.2.2.2.2.2.1 v.2.2.2.2.2.2.1 v.2.2.2.2.2.2.2.1 v.2.2.2.2.2.2.2.2.1 v.2.2.2.2.2.2.2.2.2.1 v.2.2.2.2.2.2.2.2.2.2.1 v.2.2.2.2.2.2.2.2.2.2.2.1⟩
theorem spec_TakePacked_l6.eq : ∀ rec v, evStep spec_TakePacked.E6 (bodyAt 6 f27) spec_TakePacked_l6.ent.ins spec_TakePacked_l6.ent.rts spec_TakePacked_l6.ent.hm spec_TakePacked_l6.ent.nl spec_TakePacked_l6.ent.xs rec v = spec_TakePacked_l6_step (fun c0 c1 c2 c3 c4 c5 c6 c7 c8 c9 c10 c11 => rec (c0, c1, c2, c3, c4, c5, c6, c7, c8, c9, c10, c11, ())) v.1 v.2.1 v.2.2.1 v.2.2.2.1 v.2.2.2.2.1 v.2.2.2.2.2.1 v.2.2.2.2.2.2.1 v.2.2.2.2.2.2.2.1 v.2.2.2.2.2.2.2.2.1 v.2.2.2.2.2.2.2.2.2.1 v.2.2.2.2.2.2.2.2.2.2.1 v.2.2.2.2.2.2.2.2.2.2.2.1 := by intro rec v; kernel_rfl
noncomputable def spec_TakePacked.E : Env := ⟨D, [], [(26, spec_PackedFault.ent), (52, spec_l01Word.ent), (67, spec_l10Buf.ent)], [(6, spec_TakePacked_l6.ent)]⟩
noncomputable def spec_TakePacked (a0 : ByteArray) (a1 : Int) (a2 : Int) (a3 : Int) (a4 : Bool) : Option (Int × Int × Int × List V1 × Unit) :=
 let b1 : Bool := decide ((a0.size : Int) > 65536)
 bif b1 then
  some (2, 0, 0, [], ())
 else
  (spec_PackedFault a0 a1 a2 a3 a4).bind fun r2 =>
  bif (r2.1 != 0) then
   some (1, 0, 0, [], ())
  else
   (spec_TakePacked_l6 K0 a0 a1 a2 a3 a4 0 0 0 0 0 0 []).bind fun o38 =>
   some (o38.1, o38.2.1, o38.2.2.1, o38.2.2.2.1, ())
noncomputable def spec_TakePacked.ent : Entry := ⟨[false, false], [.cell (.val .bor (.str)), .agg [.val .bor (.int .i64), .val .bor (.int .i64), .val .bor (.int .i64), .val .bor (.bool)]], [.agg [.val .bor (.int .i64), .val .bor (.int .i64), .val .bor (.int .i64), .val .own (.slice R1)]], [], fun v => spec_TakePacked v.1 v.2.1 v.2.2.1 v.2.2.2.1 v.2.2.2.2.1⟩
theorem spec_TakePacked.eq : ∀ v, evFn spec_TakePacked.E f27 spec_TakePacked.ent.ptrs spec_TakePacked.ent.ins spec_TakePacked.ent.rets spec_TakePacked.ent.outs v = spec_TakePacked.ent.f v := by intro v; kernel_rfl
theorem spec_TakePacked.fok : ∀ q ∈ [((26 : Nat), spec_PackedFault.ent), ((52 : Nat), spec_l01Word.ent), ((67 : Nat), spec_l10Buf.ent)], EntryOK Pr q.1 q.2 := by
 intro q hq
 simp only [List.mem_cons, List.mem_nil_iff, or_false] at hq
 rcases hq with rfl | rfl | rfl
 · exact spec_PackedFault.ok
 · exact spec_l01Word.ok
 · exact spec_l10Buf.ok
theorem spec_TakePacked_l6.it : ∀ n v, iter (evStep spec_TakePacked.E6 (bodyAt 6 f27) spec_TakePacked_l6.ent.ins spec_TakePacked_l6.ent.rts spec_TakePacked_l6.ent.hm spec_TakePacked_l6.ent.nl spec_TakePacked_l6.ent.xs) n v = spec_TakePacked_l6 n v.1 v.2.1 v.2.2.1 v.2.2.2.1 v.2.2.2.2.1 v.2.2.2.2.2.1 v.2.2.2.2.2.2.1 v.2.2.2.2.2.2.2.1 v.2.2.2.2.2.2.2.2.1 v.2.2.2.2.2.2.2.2.2.1 v.2.2.2.2.2.2.2.2.2.2.1 v.2.2.2.2.2.2.2.2.2.2.2.1 := by
 intro n
 induction n with
 | zero => intro v; rfl
 | succ n ih =>
  intro v
  show (evStep spec_TakePacked.E6 (bodyAt 6 f27) spec_TakePacked_l6.ent.ins spec_TakePacked_l6.ent.rts spec_TakePacked_l6.ent.hm spec_TakePacked_l6.ent.nl spec_TakePacked_l6.ent.xs) (iter (evStep spec_TakePacked.E6 (bodyAt 6 f27) spec_TakePacked_l6.ent.ins spec_TakePacked_l6.ent.rts spec_TakePacked_l6.ent.hm spec_TakePacked_l6.ent.nl spec_TakePacked_l6.ent.xs) n) v = _
  rw [spec_TakePacked_l6.eq, show (fun c0 c1 c2 c3 c4 c5 c6 c7 c8 c9 c10 c11 => iter (evStep spec_TakePacked.E6 (bodyAt 6 f27) spec_TakePacked_l6.ent.ins spec_TakePacked_l6.ent.rts spec_TakePacked_l6.ent.hm spec_TakePacked_l6.ent.nl spec_TakePacked_l6.ent.xs) n (c0, c1, c2, c3, c4, c5, c6, c7, c8, c9, c10, c11, ())) = spec_TakePacked_l6 n from by funext c0 c1 c2 c3 c4 c5 c6 c7 c8 c9 c10 c11; exact ih _]
  rfl
theorem spec_TakePacked_l6.fr : firstRegion (bodyAt 6 f27) = 6 := by kernel_rfl
theorem spec_TakePacked_l6.ls : loopsOf (bodyAt 6 f27) = [] := by kernel_rfl
theorem spec_TakePacked_l6.lok {E : Env} (hpin : spec_TakePacked.E6.pin = E.pin) (hfind : find 6 E.loops = some spec_TakePacked_l6.ent) : LoopOK Pr E (bodyAt 6 f27) :=
 loop_of (E1 := spec_TakePacked.E6) (EnvOK.of dok spec_TakePacked.fok) mixed hpin (by rw [spec_TakePacked_l6.fr]; exact hfind) spec_TakePacked_l6.ls (by intro l hl; simp at hl) (fun v => (spec_TakePacked_l6.it K0 v).symm)
theorem spec_TakePacked.ls : loopsOf (bodyOf f27) = [bodyAt 6 f27] := by kernel_rfl
theorem spec_TakePacked.ok : EntryOK Pr 27 spec_TakePacked.ent :=
 entry_ok (E := spec_TakePacked.E) (EnvOK.of dok spec_TakePacked.fok) mixed (fn := f27) (by kernel_rfl) (by kernel_rfl) (by decide) spec_TakePacked.ls (by intro l hl; simp only [List.mem_singleton] at hl; subst hl; exact spec_TakePacked_l6.lok rfl rfl) spec_TakePacked.eq
/-! ### loop.example/g00038/spec.l10Bufs -/
noncomputable def spec_l10Bufs.E4 : Env := ⟨D, [], [(65, spec_MemFault.ent), (66, spec_l10In.ent)], []⟩
noncomputable def spec_l10Bufs_l4_step (rec : ByteArray → List V1 → Int → Option ((Bool × Unit) ⊕ (Unit))) (y0 : ByteArray) (y1 : List V1) (y2 : Int) : Option ((Bool × Unit) ⊕ (Unit)) :=
 let b3 : Bool := decide (y2 < (y1.length : Int))
 bif b3 then
  let e4 : V1 := rd R1 y1 y2
  (spec_l10In y0 e4.1 e4.2.1).bind fun r5 =>
  bif (decide (0 ≤ y2) && decide (y2 < (y1.length : Int))) && (decide (0 ≤ y2) && decide (y2 < (y1.length : Int))) then
   bif !r5.1 then
    some (Sum.inl (false, ()))
   else
    rec y0 y1 (wrap64 (y2 + 1))
  else none
 else
  some (Sum.inr ())
noncomputable def spec_l10Bufs_l4 : Nat → ByteArray → List V1 → Int → Option ((Bool × Unit) ⊕ (Unit))
 | 0 => fun _ _ _ => none
 | n + 1 => spec_l10Bufs_l4_step (spec_l10Bufs_l4 n)
noncomputable def spec_l10Bufs_l4.ent : LEntry := ⟨(.cell (.val .bor (.str)) :: (.cell (.val .bor (.slice R1)) :: (sk 3 (.cell (.val .bor (.int .i64)) :: (sk 27 []))))), rk 33 [], [], [], [⟨none, sk 4 (.cell (.val .bor (.bool)) :: (sk 28 [])), rk 33 [], [], []⟩, ⟨some 0, sk 33 [], rk 33 [], [], []⟩], fun v => spec_l10Bufs_l4 K0 v.1 v.2.1 v.2.2.1⟩
theorem spec_l10Bufs_l4.eq : ∀ rec v, evStep spec_l10Bufs.E4 (bodyAt 4 f64) spec_l10Bufs_l4.ent.ins spec_l10Bufs_l4.ent.rts spec_l10Bufs_l4.ent.hm spec_l10Bufs_l4.ent.nl spec_l10Bufs_l4.ent.xs rec v = spec_l10Bufs_l4_step (fun c0 c1 c2 => rec (c0, c1, c2, ())) v.1 v.2.1 v.2.2.1 := by intro rec v; kernel_rfl
noncomputable def spec_l10Bufs.E : Env := ⟨D, [], [(65, spec_MemFault.ent), (66, spec_l10In.ent)], [(4, spec_l10Bufs_l4.ent)]⟩
noncomputable def spec_l10Bufs (a0 : ByteArray) (a1 : List V1) : Option (Bool × Unit) :=
 (spec_MemFault a0).bind fun r1 =>
 let b2 : Bool := decide ((a1.length : Int) > 1000)
 bif ((r1.1 != 0) || b2) then
  some (false, ())
 else
  (spec_l10Bufs_l4 K0 a0 a1 0).bind fun o6 =>
  match o6 with
  | Sum.inl p7 =>
   some (p7.1, ())
  | Sum.inr p8 =>
   some (true, ())
noncomputable def spec_l10Bufs.ent : Entry := ⟨[false, false], [.cell (.val .bor (.str)), .cell (.val .bor (.slice R1))], [.cell (.val .bor (.bool))], [], fun v => spec_l10Bufs v.1 v.2.1⟩
theorem spec_l10Bufs.eq : ∀ v, evFn spec_l10Bufs.E f64 spec_l10Bufs.ent.ptrs spec_l10Bufs.ent.ins spec_l10Bufs.ent.rets spec_l10Bufs.ent.outs v = spec_l10Bufs.ent.f v := by intro v; kernel_rfl
theorem spec_l10Bufs.fok : ∀ q ∈ [((65 : Nat), spec_MemFault.ent), ((66 : Nat), spec_l10In.ent)], EntryOK Pr q.1 q.2 := by
 intro q hq
 simp only [List.mem_cons, List.mem_nil_iff, or_false] at hq
 rcases hq with rfl | rfl
 · exact spec_MemFault.ok
 · exact spec_l10In.ok
theorem spec_l10Bufs_l4.it : ∀ n v, iter (evStep spec_l10Bufs.E4 (bodyAt 4 f64) spec_l10Bufs_l4.ent.ins spec_l10Bufs_l4.ent.rts spec_l10Bufs_l4.ent.hm spec_l10Bufs_l4.ent.nl spec_l10Bufs_l4.ent.xs) n v = spec_l10Bufs_l4 n v.1 v.2.1 v.2.2.1 := by
 intro n
 induction n with
 | zero => intro v; rfl
 | succ n ih =>
  intro v
  show (evStep spec_l10Bufs.E4 (bodyAt 4 f64) spec_l10Bufs_l4.ent.ins spec_l10Bufs_l4.ent.rts spec_l10Bufs_l4.ent.hm spec_l10Bufs_l4.ent.nl spec_l10Bufs_l4.ent.xs) (iter (evStep spec_l10Bufs.E4 (bodyAt 4 f64) spec_l10Bufs_l4.ent.ins spec_l10Bufs_l4.ent.rts spec_l10Bufs_l4.ent.hm spec_l10Bufs_l4.ent.nl spec_l10Bufs_l4.ent.xs) n) v = _
  rw [spec_l10Bufs_l4.eq, show (fun c0 c1 c2 => iter (evStep spec_l10Bufs.E4 (bodyAt 4 f64) spec_l10Bufs_l4.ent.ins spec_l10Bufs_l4.ent.rts spec_l10Bufs_l4.ent.hm spec_l10Bufs_l4.ent.nl spec_l10Bufs_l4.ent.xs) n (c0, c1, c2, ())) = spec_l10Bufs_l4 n from by funext c0 c1 c2; exact ih _]
  rfl
theorem spec_l10Bufs_l4.fr : firstRegion (bodyAt 4 f64) = 4 := by kernel_rfl
theorem spec_l10Bufs_l4.ls : loopsOf (bodyAt 4 f64) = [] := by kernel_rfl
theorem spec_l10Bufs_l4.lok {E : Env} (hpin : spec_l10Bufs.E4.pin = E.pin) (hfind : find 4 E.loops = some spec_l10Bufs_l4.ent) : LoopOK Pr E (bodyAt 4 f64) :=
 loop_of (E1 := spec_l10Bufs.E4) (EnvOK.of dok spec_l10Bufs.fok) mixed hpin (by rw [spec_l10Bufs_l4.fr]; exact hfind) spec_l10Bufs_l4.ls (by intro l hl; simp at hl) (fun v => (spec_l10Bufs_l4.it K0 v).symm)
theorem spec_l10Bufs.ls : loopsOf (bodyOf f64) = [bodyAt 4 f64] := by kernel_rfl
theorem spec_l10Bufs.ok : EntryOK Pr 64 spec_l10Bufs.ent :=
 entry_ok (E := spec_l10Bufs.E) (EnvOK.of dok spec_l10Bufs.fok) mixed (fn := f64) (by kernel_rfl) (by kernel_rfl) (by decide) spec_l10Bufs.ls (by intro l hl; simp only [List.mem_singleton] at hl; subst hl; exact spec_l10Bufs_l4.lok rfl rfl) spec_l10Bufs.eq
/-! ### loop.example/g00038/spec.GatherBufs -/
noncomputable def spec_GatherBufs.E5 : Env := ⟨D, [], [(64, spec_l10Bufs.ent)], []⟩
noncomputable def spec_GatherBufs_l5_step (rec : ByteArray → List V1 → ByteArray → Int → Option ((ByteArray × Unit) ⊕ (ByteArray × Unit))) (y0 : ByteArray) (y1 : List V1) (y2 : ByteArray) (y3 : Int) : Option ((ByteArray × Unit) ⊕ (ByteArray × Unit)) :=
 let b2 : Bool := decide (y3 < (y1.length : Int))
 bif b2 then
  let e3 : V1 := rd R1 y1 y3
  bif decide (0 ≤ y3) && decide (y3 < (y1.length : Int)) then
   let s4 : ByteArray := y0.extract e3.1.toNat (wrap64 (e3.1 + e3.2.1)).toNat
   let s5 : ByteArray := (bif !e3.2.2 then y0 else y0)
   let l6 : List V1 := (bif !e3.2.2 then y1 else y1)
   let s7 : ByteArray := (bif !e3.2.2 then (y2 ++ s4) else y2)
   let x8 : Int := (bif !e3.2.2 then y3 else y3)
   bif (!(!e3.2.2) || (decide (0 ≤ y3) && decide (y3 < (y1.length : Int)))) && ((!(!e3.2.2) || (decide (0 ≤ y3) && decide (y3 < (y1.length : Int)))) && ((!(!e3.2.2) || (decide (0 ≤ y3) && decide (y3 < (y1.length : Int)))) && ((!(!e3.2.2) || (decide (0 ≤ (wrap64 (e3.1 + e3.2.1))) && decide ((wrap64 (e3.1 + e3.2.1)) ≤ (y0.size : Int)))) && ((!(!e3.2.2) || (decide (0 ≤ e3.1) && decide (e3.1 ≤ (wrap64 (e3.1 + e3.2.1))))) && (!(!e3.2.2) || (joins y2 s4)))))) then
    let b13 : Bool := decide ((s7.size : Int) > 65536)
    bif b13 then
     some (Sum.inl ((⟨#[]⟩ : ByteArray), ()))
    else
     rec s5 l6 s7 (wrap64 (x8 + 1))
   else none
  else none
 else
  some (Sum.inr (y2, ()))
noncomputable def spec_GatherBufs_l5 : Nat → ByteArray → List V1 → ByteArray → Int → Option ((ByteArray × Unit) ⊕ (ByteArray × Unit))
 | 0 => fun _ _ _ _ => none
 | n + 1 => spec_GatherBufs_l5_step (spec_GatherBufs_l5 n)
noncomputable def spec_GatherBufs_l5.ent : LEntry := ⟨(.cell (.val .bor (.str)) :: (.cell (.val .bor (.slice R1)) :: (sk 3 (.cell (.val .bor (.str)) :: (.cell (.val .bor (.int .i64)) :: (sk 40 [])))))), rk 47 [], [], [], [⟨none, sk 4 (.cell (.val .bor (.str)) :: (sk 42 [])), rk 47 [], [], []⟩, ⟨some 0, sk 5 (.cell (.val .bor (.str)) :: (sk 41 [])), rk 47 [], [], []⟩], fun v => spec_GatherBufs_l5 K0 v.1 v.2.1 v.2.2.1 v.2.2.2.1⟩
theorem spec_GatherBufs_l5.eq : ∀ rec v, evStep spec_GatherBufs.E5 (bodyAt 5 f24) spec_GatherBufs_l5.ent.ins spec_GatherBufs_l5.ent.rts spec_GatherBufs_l5.ent.hm spec_GatherBufs_l5.ent.nl spec_GatherBufs_l5.ent.xs rec v = spec_GatherBufs_l5_step (fun c0 c1 c2 c3 => rec (c0, c1, c2, c3, ())) v.1 v.2.1 v.2.2.1 v.2.2.2.1 := by intro rec v; kernel_rfl
noncomputable def spec_GatherBufs.E : Env := ⟨D, [], [(64, spec_l10Bufs.ent)], [(5, spec_GatherBufs_l5.ent)]⟩
noncomputable def spec_GatherBufs (a0 : ByteArray) (a1 : List V1) : Option (ByteArray × Unit) :=
 (spec_l10Bufs a0 a1).bind fun r1 =>
 bif !r1.1 then
  some ((⟨#[]⟩ : ByteArray), ())
 else
  (spec_GatherBufs_l5 K0 a0 a1 (⟨#[]⟩ : ByteArray) 0).bind fun o14 =>
  match o14 with
  | Sum.inl p15 =>
   some (p15.1, ())
  | Sum.inr p16 =>
   some (p16.1, ())
noncomputable def spec_GatherBufs.ent : Entry := ⟨[false, false], [.cell (.val .bor (.str)), .cell (.val .bor (.slice R1))], [.cell (.val .bor (.str))], [], fun v => spec_GatherBufs v.1 v.2.1⟩
theorem spec_GatherBufs.eq : ∀ v, evFn spec_GatherBufs.E f24 spec_GatherBufs.ent.ptrs spec_GatherBufs.ent.ins spec_GatherBufs.ent.rets spec_GatherBufs.ent.outs v = spec_GatherBufs.ent.f v := by intro v; kernel_rfl
theorem spec_GatherBufs.fok : ∀ q ∈ [((64 : Nat), spec_l10Bufs.ent)], EntryOK Pr q.1 q.2 := by
 intro q hq
 simp only [List.mem_cons, List.mem_nil_iff, or_false] at hq
 rcases hq with rfl
 · exact spec_l10Bufs.ok
theorem spec_GatherBufs_l5.it : ∀ n v, iter (evStep spec_GatherBufs.E5 (bodyAt 5 f24) spec_GatherBufs_l5.ent.ins spec_GatherBufs_l5.ent.rts spec_GatherBufs_l5.ent.hm spec_GatherBufs_l5.ent.nl spec_GatherBufs_l5.ent.xs) n v = spec_GatherBufs_l5 n v.1 v.2.1 v.2.2.1 v.2.2.2.1 := by
 intro n
 induction n with
 | zero => intro v; rfl
 | succ n ih =>
  intro v
  show (evStep spec_GatherBufs.E5 (bodyAt 5 f24) spec_GatherBufs_l5.ent.ins spec_GatherBufs_l5.ent.rts spec_GatherBufs_l5.ent.hm spec_GatherBufs_l5.ent.nl spec_GatherBufs_l5.ent.xs) (iter (evStep spec_GatherBufs.E5 (bodyAt 5 f24) spec_GatherBufs_l5.ent.ins spec_GatherBufs_l5.ent.rts spec_GatherBufs_l5.ent.hm spec_GatherBufs_l5.ent.nl spec_GatherBufs_l5.ent.xs) n) v = _
  rw [spec_GatherBufs_l5.eq, show (fun c0 c1 c2 c3 => iter (evStep spec_GatherBufs.E5 (bodyAt 5 f24) spec_GatherBufs_l5.ent.ins spec_GatherBufs_l5.ent.rts spec_GatherBufs_l5.ent.hm spec_GatherBufs_l5.ent.nl spec_GatherBufs_l5.ent.xs) n (c0, c1, c2, c3, ())) = spec_GatherBufs_l5 n from by funext c0 c1 c2 c3; exact ih _]
  rfl
theorem spec_GatherBufs_l5.fr : firstRegion (bodyAt 5 f24) = 5 := by kernel_rfl
theorem spec_GatherBufs_l5.ls : loopsOf (bodyAt 5 f24) = [] := by kernel_rfl
theorem spec_GatherBufs_l5.lok {E : Env} (hpin : spec_GatherBufs.E5.pin = E.pin) (hfind : find 5 E.loops = some spec_GatherBufs_l5.ent) : LoopOK Pr E (bodyAt 5 f24) :=
 loop_of (E1 := spec_GatherBufs.E5) (EnvOK.of dok spec_GatherBufs.fok) mixed hpin (by rw [spec_GatherBufs_l5.fr]; exact hfind) spec_GatherBufs_l5.ls (by intro l hl; simp at hl) (fun v => (spec_GatherBufs_l5.it K0 v).symm)
theorem spec_GatherBufs.ls : loopsOf (bodyOf f24) = [bodyAt 5 f24] := by kernel_rfl
theorem spec_GatherBufs.ok : EntryOK Pr 24 spec_GatherBufs.ent :=
 entry_ok (E := spec_GatherBufs.E) (EnvOK.of dok spec_GatherBufs.fok) mixed (fn := f24) (by kernel_rfl) (by kernel_rfl) (by decide) spec_GatherBufs.ls (by intro l hl; simp only [List.mem_singleton] at hl; subst hl; exact spec_GatherBufs_l5.lok rfl rfl) spec_GatherBufs.eq
/-! ### loop.example/g00038/spec.l11Told -/
noncomputable def spec_l11Told.E3 : Env := ⟨D, [], [], []⟩
noncomputable def spec_l11Told_l3_step (rec : List V1 → Int → Int → Option ((Int × Unit))) (y0 : List V1) (y1 : Int) (y2 : Int) : Option ((Int × Unit)) :=
 let b1 : Bool := decide (y2 < (y0.length : Int))
 bif b1 then
  let e2 : V1 := rd R1 y0 y2
  bif decide (0 ≤ y2) && decide (y2 < (y0.length : Int)) then
   let l3 : List V1 := (bif !e2.2.2 then y0 else y0)
   let x4 : Int := (bif !e2.2.2 then (wrap64 (y1 + e2.2.1)) else y1)
   let x5 : Int := (bif !e2.2.2 then y2 else y2)
   bif (!(!e2.2.2) || (decide (0 ≤ y2) && decide (y2 < (y0.length : Int)))) then
    rec l3 x4 (wrap64 (x5 + 1))
   else none
  else none
 else
  some (y1, ())
noncomputable def spec_l11Told_l3 : Nat → List V1 → Int → Int → Option ((Int × Unit))
 | 0 => fun _ _ _ => none
 | n + 1 => spec_l11Told_l3_step (spec_l11Told_l3 n)
noncomputable def spec_l11Told_l3.ent : LEntry := ⟨(.cell (.val .bor (.slice R1)) :: (sk 2 (.cell (.val .bor (.int .i64)) :: (.cell (.val .bor (.int .i64)) :: (sk 20 []))))), rk 25 [], [], [], [⟨some 0, sk 3 (.cell (.val .bor (.int .i64)) :: (sk 21 [])), rk 25 [], [], []⟩], fun v => spec_l11Told_l3 K0 v.1 v.2.1 v.2.2.1⟩
theorem spec_l11Told_l3.eq : ∀ rec v, evStep spec_l11Told.E3 (bodyAt 3 f28) spec_l11Told_l3.ent.ins spec_l11Told_l3.ent.rts spec_l11Told_l3.ent.hm spec_l11Told_l3.ent.nl spec_l11Told_l3.ent.xs rec v = spec_l11Told_l3_step (fun c0 c1 c2 => rec (c0, c1, c2, ())) v.1 v.2.1 v.2.2.1 := by intro rec v; kernel_rfl
noncomputable def spec_l11Told.E : Env := ⟨D, [], [], [(3, spec_l11Told_l3.ent)]⟩
noncomputable def spec_l11Told (a0 : List V1) : Option (Int × Unit) :=
 (spec_l11Told_l3 K0 a0 0 0).bind fun o10 =>
 some (o10.1, ())
noncomputable def spec_l11Told.ent : Entry := ⟨[false], [.cell (.val .bor (.slice R1))], [.cell (.val .bor (.int .i64))], [], fun v => spec_l11Told v.1⟩
theorem spec_l11Told.eq : ∀ v, evFn spec_l11Told.E f28 spec_l11Told.ent.ptrs spec_l11Told.ent.ins spec_l11Told.ent.rets spec_l11Told.ent.outs v = spec_l11Told.ent.f v := by intro v; kernel_rfl
theorem spec_l11Told.fok : ∀ q ∈ ([] : List (Nat × Entry)), EntryOK Pr q.1 q.2 := by intro q hq; simp at hq
theorem spec_l11Told_l3.it : ∀ n v, iter (evStep spec_l11Told.E3 (bodyAt 3 f28) spec_l11Told_l3.ent.ins spec_l11Told_l3.ent.rts spec_l11Told_l3.ent.hm spec_l11Told_l3.ent.nl spec_l11Told_l3.ent.xs) n v = spec_l11Told_l3 n v.1 v.2.1 v.2.2.1 := by
 intro n
 induction n with
 | zero => intro v; rfl
 | succ n ih =>
  intro v
  show (evStep spec_l11Told.E3 (bodyAt 3 f28) spec_l11Told_l3.ent.ins spec_l11Told_l3.ent.rts spec_l11Told_l3.ent.hm spec_l11Told_l3.ent.nl spec_l11Told_l3.ent.xs) (iter (evStep spec_l11Told.E3 (bodyAt 3 f28) spec_l11Told_l3.ent.ins spec_l11Told_l3.ent.rts spec_l11Told_l3.ent.hm spec_l11Told_l3.ent.nl spec_l11Told_l3.ent.xs) n) v = _
  rw [spec_l11Told_l3.eq, show (fun c0 c1 c2 => iter (evStep spec_l11Told.E3 (bodyAt 3 f28) spec_l11Told_l3.ent.ins spec_l11Told_l3.ent.rts spec_l11Told_l3.ent.hm spec_l11Told_l3.ent.nl spec_l11Told_l3.ent.xs) n (c0, c1, c2, ())) = spec_l11Told_l3 n from by funext c0 c1 c2; exact ih _]
  rfl
theorem spec_l11Told_l3.fr : firstRegion (bodyAt 3 f28) = 3 := by kernel_rfl
theorem spec_l11Told_l3.ls : loopsOf (bodyAt 3 f28) = [] := by kernel_rfl
theorem spec_l11Told_l3.lok {E : Env} (hpin : spec_l11Told.E3.pin = E.pin) (hfind : find 3 E.loops = some spec_l11Told_l3.ent) : LoopOK Pr E (bodyAt 3 f28) :=
 loop_of (E1 := spec_l11Told.E3) (EnvOK.of dok spec_l11Told.fok) mixed hpin (by rw [spec_l11Told_l3.fr]; exact hfind) spec_l11Told_l3.ls (by intro l hl; simp at hl) (fun v => (spec_l11Told_l3.it K0 v).symm)
theorem spec_l11Told.ls : loopsOf (bodyOf f28) = [bodyAt 3 f28] := by kernel_rfl
theorem spec_l11Told.ok : EntryOK Pr 28 spec_l11Told.ent :=
 entry_ok (E := spec_l11Told.E) (EnvOK.of dok spec_l11Told.fok) mixed (fn := f28) (by kernel_rfl) (by kernel_rfl) (by decide) spec_l11Told.ls (by intro l hl; simp only [List.mem_singleton] at hl; subst hl; exact spec_l11Told_l3.lok rfl rfl) spec_l11Told.eq
/-! ### loop.example/g00038/spec.l01IsWord -/
noncomputable def spec_l01IsWord.E : Env := ⟨D, [], [], []⟩
noncomputable def spec_l01IsWord (a0 : Int) : Option (Bool × Unit) :=
 let b1 : Bool := (decide (a0 ≥ 0) && decide (a0 < 4294967296))
 some (b1, ())
noncomputable def spec_l01IsWord.ent : Entry := ⟨[false], [.cell (.val .bor (.int .i64))], [.cell (.val .bor (.bool))], [], fun v => spec_l01IsWord v.1⟩
theorem spec_l01IsWord.eq : ∀ v, evFn spec_l01IsWord.E f50 spec_l01IsWord.ent.ptrs spec_l01IsWord.ent.ins spec_l01IsWord.ent.rets spec_l01IsWord.ent.outs v = spec_l01IsWord.ent.f v := by intro v; kernel_rfl
theorem spec_l01IsWord.fok : ∀ q ∈ ([] : List (Nat × Entry)), EntryOK Pr q.1 q.2 := by intro q hq; simp at hq
theorem spec_l01IsWord.ls : loopsOf (bodyOf f50) = [] := by kernel_rfl
theorem spec_l01IsWord.ok : EntryOK Pr 50 spec_l01IsWord.ent :=
 entry_ok (E := spec_l01IsWord.E) (EnvOK.of dok spec_l01IsWord.fok) mixed (fn := f50) (by kernel_rfl) (by kernel_rfl) (by decide) spec_l01IsWord.ls (by intro l hl; simp at hl) spec_l01IsWord.eq
/-! ### loop.example/g00038/spec.GetWord -/
noncomputable def spec_GetWord.E : Env := ⟨D, [], [(52, spec_l01Word.ent)], []⟩
noncomputable def spec_GetWord (a0 : ByteArray) (a1 : Int) : Option (Bool × Int × Unit) :=
 let b1 : Bool := decide ((a0.size : Int) > 65536)
 let x2 : Int := (wrap64 ((a0.size : Int) - 4))
 let b3 : Bool := ((b1 || decide (a1 < 0)) || decide (a1 > x2))
 bif b3 then
  some (false, 0, ())
 else
  (spec_l01Word a0 a1).bind fun r4 =>
  some (true, r4.1, ())
noncomputable def spec_GetWord.ent : Entry := ⟨[false, false], [.cell (.val .bor (.str)), .cell (.val .bor (.int .i64))], [.agg [.val .bor (.bool), .val .bor (.int .i64)]], [], fun v => spec_GetWord v.1 v.2.1⟩
theorem spec_GetWord.eq : ∀ v, evFn spec_GetWord.E f25 spec_GetWord.ent.ptrs spec_GetWord.ent.ins spec_GetWord.ent.rets spec_GetWord.ent.outs v = spec_GetWord.ent.f v := by intro v; kernel_rfl
theorem spec_GetWord.fok : ∀ q ∈ [((52 : Nat), spec_l01Word.ent)], EntryOK Pr q.1 q.2 := by
 intro q hq
 simp only [List.mem_cons, List.mem_nil_iff, or_false] at hq
 rcases hq with rfl
 · exact spec_l01Word.ok
theorem spec_GetWord.ls : loopsOf (bodyOf f25) = [] := by kernel_rfl
theorem spec_GetWord.ok : EntryOK Pr 25 spec_GetWord.ent :=
 entry_ok (E := spec_GetWord.E) (EnvOK.of dok spec_GetWord.fok) mixed (fn := f25) (by kernel_rfl) (by kernel_rfl) (by decide) spec_GetWord.ls (by intro l hl; simp at hl) spec_GetWord.eq
/-! ### loop.example/g00038/spec.l01Mod -/
noncomputable def spec_l01Mod.E : Env := ⟨D, [], [], []⟩
noncomputable def spec_l01Mod (a0 : Int) (a1 : Int) : Option (Int × Unit) :=
 bif !(a1 == 0) then
  let b1 : Bool := decide ((Int.tmod a0 a1) < 0)
  let x2 : Int := (wrap64 ((Int.tmod a0 a1) + a1))
  let x3 : Int := (bif b1 then x2 else (Int.tmod a0 a1))
  some (x3, ())
 else none
noncomputable def spec_l01Mod.ent : Entry := ⟨[false, false], [.cell (.val .bor (.int .i64)), .cell (.val .bor (.int .i64))], [.cell (.val .bor (.int .i64))], [], fun v => spec_l01Mod v.1 v.2.1⟩
theorem spec_l01Mod.eq : ∀ v, evFn spec_l01Mod.E f62 spec_l01Mod.ent.ptrs spec_l01Mod.ent.ins spec_l01Mod.ent.rets spec_l01Mod.ent.outs v = spec_l01Mod.ent.f v := by intro v; kernel_rfl
theorem spec_l01Mod.fok : ∀ q ∈ ([] : List (Nat × Entry)), EntryOK Pr q.1 q.2 := by intro q hq; simp at hq
theorem spec_l01Mod.ls : loopsOf (bodyOf f62) = [] := by kernel_rfl
theorem spec_l01Mod.ok : EntryOK Pr 62 spec_l01Mod.ent :=
 entry_ok (E := spec_l01Mod.E) (EnvOK.of dok spec_l01Mod.fok) mixed (fn := f62) (by kernel_rfl) (by kernel_rfl) (by decide) spec_l01Mod.ls (by intro l hl; simp at hl) spec_l01Mod.eq
/-! ### loop.example/g00038/spec.Word -/
noncomputable def spec_Word.E : Env := ⟨D, [], [(62, spec_l01Mod.ent)], []⟩
noncomputable def spec_Word (a0 : Int) : Option (Int × Unit) :=
 (spec_l01Mod a0 4294967296).bind fun r1 =>
 some (r1.1, ())
noncomputable def spec_Word.ent : Entry := ⟨[false], [.cell (.val .bor (.int .i64))], [.cell (.val .bor (.int .i64))], [], fun v => spec_Word v.1⟩
theorem spec_Word.eq : ∀ v, evFn spec_Word.E f83 spec_Word.ent.ptrs spec_Word.ent.ins spec_Word.ent.rets spec_Word.ent.outs v = spec_Word.ent.f v := by intro v; kernel_rfl
theorem spec_Word.fok : ∀ q ∈ [((62 : Nat), spec_l01Mod.ent)], EntryOK Pr q.1 q.2 := by
 intro q hq
 simp only [List.mem_cons, List.mem_nil_iff, or_false] at hq
 rcases hq with rfl
 · exact spec_l01Mod.ok
theorem spec_Word.ls : loopsOf (bodyOf f83) = [] := by kernel_rfl
theorem spec_Word.ok : EntryOK Pr 83 spec_Word.ent :=
 entry_ok (E := spec_Word.E) (EnvOK.of dok spec_Word.fok) mixed (fn := f83) (by kernel_rfl) (by kernel_rfl) (by decide) spec_Word.ls (by intro l hl; simp at hl) spec_Word.eq
/-! ### loop.example/g00038/spec.PutWord -/
noncomputable def spec_PutWord.E : Env := ⟨D, [], [(83, spec_Word.ent)], []⟩
noncomputable def spec_PutWord (a0 : Int) : Option (ByteArray × Unit) :=
 (spec_Word a0).bind fun r1 =>
 let x2 : Int := (IntKind.u8.wrap (shr .i64 r1.1 8))
 let x3 : Int := (IntKind.u8.wrap (shr .i64 r1.1 16))
 let x4 : Int := (IntKind.u8.wrap (shr .i64 r1.1 24))
 let l5 : List Int := [(IntKind.u8.wrap (r1.1)), x2, x3, x4]
 bif (decide (0 ≤ (8 : Int))) && ((decide (0 ≤ (16 : Int))) && (decide (0 ≤ (24 : Int)))) then
  some (b2s l5, ())
 else none
noncomputable def spec_PutWord.ent : Entry := ⟨[false], [.cell (.val .bor (.int .i64))], [.cell (.val .bor (.str))], [], fun v => spec_PutWord v.1⟩
theorem spec_PutWord.eq : ∀ v, evFn spec_PutWord.E f49 spec_PutWord.ent.ptrs spec_PutWord.ent.ins spec_PutWord.ent.rets spec_PutWord.ent.outs v = spec_PutWord.ent.f v := by intro v; kernel_rfl
theorem spec_PutWord.fok : ∀ q ∈ [((83 : Nat), spec_Word.ent)], EntryOK Pr q.1 q.2 := by
 intro q hq
 simp only [List.mem_cons, List.mem_nil_iff, or_false] at hq
 rcases hq with rfl
 · exact spec_Word.ok
theorem spec_PutWord.ls : loopsOf (bodyOf f49) = [] := by kernel_rfl
theorem spec_PutWord.ok : EntryOK Pr 49 spec_PutWord.ent :=
 entry_ok (E := spec_PutWord.E) (EnvOK.of dok spec_PutWord.fok) mixed (fn := f49) (by kernel_rfl) (by kernel_rfl) (by decide) spec_PutWord.ls (by intro l hl; simp at hl) spec_PutWord.eq
/-! ### loop.example/g00038/spec.SetWord -/
noncomputable def spec_SetWord.E : Env := ⟨D, [], [(25, spec_GetWord.ent), (49, spec_PutWord.ent)], []⟩
noncomputable def spec_SetWord (a0 : ByteArray) (a1 : Int) (a2 : Int) : Option (ByteArray × Unit) :=
 (spec_GetWord a0 a1).bind fun r1 =>
 bif !r1.1 then
  some ((⟨#[]⟩ : ByteArray), ())
 else
  (spec_PutWord a2).bind fun r2 =>
  let s3 : ByteArray := ((a0.extract 0 a1.toNat) ++ r2.1)
  let s4 : ByteArray := a0.extract (wrap64 (a1 + 4)).toNat a0.size
  bif (decide (0 ≤ a1) && decide (a1 ≤ (a0.size : Int))) && ((joins (a0.extract 0 a1.toNat) r2.1) && ((decide (0 ≤ (wrap64 (a1 + 4))) && decide ((wrap64 (a1 + 4)) ≤ (a0.size : Int))) && (joins s3 s4))) then
   some ((s3 ++ s4), ())
  else none
noncomputable def spec_SetWord.ent : Entry := ⟨[false, false, false], [.cell (.val .bor (.str)), .cell (.val .bor (.int .i64)), .cell (.val .bor (.int .i64))], [.cell (.val .bor (.str))], [], fun v => spec_SetWord v.1 v.2.1 v.2.2.1⟩
theorem spec_SetWord.eq : ∀ v, evFn spec_SetWord.E f18 spec_SetWord.ent.ptrs spec_SetWord.ent.ins spec_SetWord.ent.rets spec_SetWord.ent.outs v = spec_SetWord.ent.f v := by intro v; kernel_rfl
theorem spec_SetWord.fok : ∀ q ∈ [((25 : Nat), spec_GetWord.ent), ((49 : Nat), spec_PutWord.ent)], EntryOK Pr q.1 q.2 := by
 intro q hq
 simp only [List.mem_cons, List.mem_nil_iff, or_false] at hq
 rcases hq with rfl | rfl
 · exact spec_GetWord.ok
 · exact spec_PutWord.ok
theorem spec_SetWord.ls : loopsOf (bodyOf f18) = [] := by kernel_rfl
theorem spec_SetWord.ok : EntryOK Pr 18 spec_SetWord.ent :=
 entry_ok (E := spec_SetWord.E) (EnvOK.of dok spec_SetWord.fok) mixed (fn := f18) (by kernel_rfl) (by kernel_rfl) (by decide) spec_SetWord.ls (by intro l hl; simp at hl) spec_SetWord.eq
/-! ### loop.example/g00038/spec.GivePacked -/
noncomputable def spec_GivePacked.E : Env := ⟨D, [], [(26, spec_PackedFault.ent), (50, spec_l01IsWord.ent), (18, spec_SetWord.ent)], []⟩
noncomputable def spec_GivePacked (a0 : ByteArray) (a1 : Int) (a2 : Int) (a3 : Int) (a4 : Bool) (a5 : Int) (a6 : Int) (a7 : Int) : Option (Int × ByteArray × Int × Int × Int × Bool × Unit) :=
 let b1 : Bool := decide ((a0.size : Int) > 65536)
 bif b1 then
  some (2, ByteArray.empty, 0, 0, 0, false, ())
 else
  (spec_PackedFault a0 a1 a2 a3 a4).bind fun r2 =>
  let b3 : Bool := ((r2.1 != 0) || decide (a5 < 0))
  let b4 : Bool := (b3 || decide (a5 > 65535))
  let r5 : Bool × Unit := (spec_l01IsWord a6).getD (false, ())
  let b6 : Bool := ((b4 || !r5.1) || decide (a7 < 1))
  bif (!(!b4) || ((spec_l01IsWord a6).isSome)) then
   bif (b6 || decide (a7 > a1)) then
    some (1, ByteArray.empty, 0, 0, 0, false, ())
   else
    let x7 : Int := (wrap64 ((16 : Int) * a3))
    let x8 : Int := (bif a4 then (wrap64 (a2 + x7)) else (wrap64 (a2 + x7)))
    let x9 : Int := (bif a4 then 32896 else 0)
    (spec_SetWord (bif a4 then a0 else a0) x8 0).bind fun r22 =>
    (spec_SetWord r22.1 (wrap64 (x8 + 4)) (bif a4 then a6 else a6)).bind fun r23 =>
    (spec_SetWord r23.1 (wrap64 (x8 + 8)) x9).bind fun r24 =>
    (spec_SetWord r24.1 (wrap64 (x8 + 12)) (bif a4 then a5 else a5)).bind fun r25 =>
    let x26 : Int := (wrap64 ((bif a4 then a3 else a3) + (bif a4 then a7 else a7)))
    let b27 : Bool := decide (x26 ≥ (bif a4 then a1 else a1))
    let x28 : Int := (wrap64 (x26 - (bif a4 then a1 else a1)))
    let b29 : Bool := !(bif a4 then a4 else a4)
    let s30 : ByteArray := (bif b27 then r25.1 else r25.1)
    let x31 : Int := (bif b27 then (bif a4 then a1 else a1) else (bif a4 then a1 else a1))
    let x32 : Int := (bif b27 then (bif a4 then a2 else a2) else (bif a4 then a2 else a2))
    let x65 : Int := (bif b27 then x28 else x26)
    let b66 : Bool := (bif b27 then b29 else (bif a4 then a4 else a4))
    some (0, s30, x31, x32, x65, b66, ())
  else none
noncomputable def spec_GivePacked.ent : Entry := ⟨[false, false, false, false, false], [.cell (.val .bor (.str)), .agg [.val .bor (.int .i64), .val .bor (.int .i64), .val .bor (.int .i64), .val .bor (.bool)], .cell (.val .bor (.int .i64)), .cell (.val .bor (.int .i64)), .cell (.val .bor (.int .i64))], [.agg [.val .bor (.int .i64), .val .bor (.str), .val .bor (.int .i64), .val .bor (.int .i64), .val .bor (.int .i64), .val .bor (.bool)]], [], fun v => spec_GivePacked v.1 v.2.1 v.2.2.1 v.2.2.2.1 v.2.2.2.2.1 v.2.2.2.2.2.1 v.2.2.2.2.2.2.1 v.2.2.2.2.2.2.2.1⟩
theorem spec_GivePacked.eq : ∀ v, evFn spec_GivePacked.E f29 spec_GivePacked.ent.ptrs spec_GivePacked.ent.ins spec_GivePacked.ent.rets spec_GivePacked.ent.outs v = spec_GivePacked.ent.f v := by intro v; kernel_rfl
theorem spec_GivePacked.fok : ∀ q ∈ [((26 : Nat), spec_PackedFault.ent), ((50 : Nat), spec_l01IsWord.ent), ((18 : Nat), spec_SetWord.ent)], EntryOK Pr q.1 q.2 := by
 intro q hq
 simp only [List.mem_cons, List.mem_nil_iff, or_false] at hq
 rcases hq with rfl | rfl | rfl
 · exact spec_PackedFault.ok
 · exact spec_l01IsWord.ok
 · exact spec_SetWord.ok
theorem spec_GivePacked.ls : loopsOf (bodyOf f29) = [] := by kernel_rfl
theorem spec_GivePacked.ok : EntryOK Pr 29 spec_GivePacked.ent :=
 entry_ok (E := spec_GivePacked.E) (EnvOK.of dok spec_GivePacked.fok) mixed (fn := f29) (by kernel_rfl) (by kernel_rfl) (by decide) spec_GivePacked.ls (by intro l hl; simp at hl) spec_GivePacked.eq
/-! ### loop.example/g00038/spec.SendFrames -/
noncomputable def spec_SendFrames.E6 : Env := ⟨D, [], [(26, spec_PackedFault.ent), (27, spec_TakePacked.ent), (24, spec_GatherBufs.ent), (28, spec_l11Told.ent), (29, spec_GivePacked.ent)], []⟩
noncomputable def spec_SendFrames_l6_step (rec : Int → ByteArray → Int → Int → Int → Bool → Int → ByteArray → Int → Int → Int → Bool → List ByteArray → Option ((Int × ByteArray × Int × Int × Int × Bool × List ByteArray × Unit) ⊕ (Int × ByteArray × Int × Int × Int × Bool × Int × ByteArray × Int × Int × Int × Bool × List ByteArray × Unit))) (y0 : Int) (y1 : ByteArray) (y2 : Int) (y3 : Int) (y4 : Int) (y5 : Bool) (y6 : Int) (y7 : ByteArray) (y8 : Int) (y9 : Int) (y10 : Int) (y11 : Bool) (y12 : List ByteArray) : Option ((Int × ByteArray × Int × Int × Int × Bool × List ByteArray × Unit) ⊕ (Int × ByteArray × Int × Int × Int × Bool × Int × ByteArray × Int × Int × Int × Bool × List ByteArray × Unit)) :=
 let b11 : Bool := decide ((y12.length : Int) < 1000)
 bif b11 then
  (spec_TakePacked y7 y8 y9 y10 y11).bind fun r12 =>
  bif (r12.1 == 5) then
   some (Sum.inl (y6, y7, y8, y9, y10, y11, y12, ()))
  else
   (spec_GatherBufs y7 r12.2.2.2.1).bind fun r13 =>
   let b14 : Bool := decide ((r13.1.size : Int) > 1500)
   let r15 : Int × Unit := (spec_l11Told r12.2.2.2.1).getD (0, ())
   let b16 : Bool := ((r13.1.size : Int) != r15.1)
   let b17 : Bool := (((r12.1 != 0) || b14) || b16)
   bif (!(!((r12.1 != 0) || b14)) || ((spec_l11Told r12.2.2.2.1).isSome)) then
    bif b17 then
     some (Sum.inl (6, y7, y8, y9, y10, y11, y12, ()))
    else
     bif roomy ((y12.length : Int) + ([r13.1].length : Int)) 16 then
      (spec_GivePacked y7 y8 y9 y10 y11 r12.2.1 0 r12.2.2.1).bind fun r18 =>
      rec y0 y1 y2 y3 y4 y5 y6 r18.2.1 r18.2.2.1 r18.2.2.2.1 r18.2.2.2.2.1 r18.2.2.2.2.2.1 (y12 ++ [r13.1])
     else none
   else none
 else
  some (Sum.inr (y0, y1, y2, y3, y4, y5, y6, y7, y8, y9, y10, y11, y12, ()))
noncomputable def spec_SendFrames_l6 : Nat → Int → ByteArray → Int → Int → Int → Bool → Int → ByteArray → Int → Int → Int → Bool → List ByteArray → Option ((Int × ByteArray × Int × Int × Int × Bool × List ByteArray × Unit) ⊕ (Int × ByteArray × Int × Int × Int × Bool × Int × ByteArray × Int × Int × Int × Bool × List ByteArray × Unit))
 | 0 => fun _ _ _ _ _ _ _ _ _ _ _ _ _ => none
 | n + 1 => spec_SendFrames_l6_step (spec_SendFrames_l6 n)
noncomputable def spec_SendFrames_l6.ent : LEntry := ⟨sk 4 (.cell (.fix (.ptr 4 0)) :: (.cell (.fix (.ptr 5 0)) :: (sk 73 []))), rk 4 ([.val .bor (.int .i64), .val .bor (.str), .val .bor (.int .i64), .val .bor (.int .i64), .val .bor (.int .i64), .val .bor (.bool), .fix (.nil)] :: ([.val .bor (.int .i64), .val .bor (.str), .val .bor (.int .i64), .val .bor (.int .i64), .val .bor (.int .i64), .val .bor (.bool), .val .own (.slice (.str))] :: (rk 73 []))), [], [(5, 6, true, .str)], [⟨none, sk 4 (.cell (.fix (.ptr 4 0)) :: (sk 74 [])), rk 4 ([.val .bor (.int .i64), .val .bor (.str), .val .bor (.int .i64), .val .bor (.int .i64), .val .bor (.int .i64), .val .bor (.bool), .val .own (.slice (.str))] :: (rk 74 [])), [], []⟩, ⟨some 0, sk 4 (.cell (.fix (.ptr 4 0)) :: (.cell (.fix (.ptr 5 0)) :: (sk 73 []))), rk 4 ([.val .bor (.int .i64), .val .bor (.str), .val .bor (.int .i64), .val .bor (.int .i64), .val .bor (.int .i64), .val .bor (.bool), .fix (.nil)] :: ([.val .bor (.int .i64), .val .bor (.str), .val .bor (.int .i64), .val .bor (.int .i64), .val .bor (.int .i64), .val .bor (.bool), .val .own (.slice (.str))] :: (rk 73 []))), [], []⟩], fun v => spec_SendFrames_l6 K0 v.1 v.2.1 v.2.2.1 v.2.2.2.1 v.2.2.2.2.1 v.2.2.2.2.2.1 v.2.2.2.2.2.2.1 v.2.2.2.2.2.2.2.1 v.2.2.2.2.2.2.2.2.1 v.2.2.2.2.2.2.2.2.2.1 v.2.2.2.2.2.2.2.2.2.2.1 v.2.2.2.2.2.2.2.2.2.2.2.1 v.2.2.2.2.2.2.2.2.2.2.2.2.1⟩
theorem spec_SendFrames_l6.eq : ∀ rec v, evStep spec_SendFrames.E6 (bodyAt 6 f7) spec_SendFrames_l6.ent.ins spec_SendFrames_l6.ent.rts spec_SendFrames_l6.ent.hm spec_SendFrames_l6.ent.nl spec_SendFrames_l6.ent.xs rec v = spec_SendFrames_l6_step (fun c0 c1 c2 c3 c4 c5 c6 c7 c8 c9 c10 c11 c12 => rec (c0, c1, c2, c3, c4, c5, c6, c7, c8, c9, c10, c11, c12, ())) v.1 v.2.1 v.2.2.1 v.2.2.2.1 v.2.2.2.2.1 v.2.2.2.2.2.1 v.2.2.2.2.2.2.1 v.2.2.2.2.2.2.2.1 v.2.2.2.2.2.2.2.2.1 v.2.2.2.2.2.2.2.2.2.1 v.2.2.2.2.2.2.2.2.2.2.1 v.2.2.2.2.2.2.2.2.2.2.2.1 v.2.2.2.2.2.2.2.2.2.2.2.2.1 := by intro rec v; kernel_rfl
noncomputable def spec_SendFrames.E : Env := ⟨D, [], [(26, spec_PackedFault.ent), (27, spec_TakePacked.ent), (24, spec_GatherBufs.ent), (28, spec_l11Told.ent), (29, spec_GivePacked.ent)], [(6, spec_SendFrames_l6.ent)]⟩
noncomputable def spec_SendFrames (a0 : ByteArray) (a1 : Int) (a2 : Int) (a3 : Int) (a4 : Bool) : Option (Int × ByteArray × Int × Int × Int × Bool × List ByteArray × Unit) :=
 let b1 : Bool := decide ((a0.size : Int) > 65536)
 bif b1 then
  some (2, ByteArray.empty, 0, 0, 0, false, [], ())
 else
  (spec_PackedFault a0 a1 a2 a3 a4).bind fun r2 =>
  bif (r2.1 != 0) then
   some (1, ByteArray.empty, 0, 0, 0, false, [], ())
  else
   (spec_SendFrames_l6 K0 0 ByteArray.empty 0 0 0 false 0 a0 a1 a2 a3 a4 []).bind fun o19 =>
   match o19 with
   | Sum.inl p20 =>
    some (p20.1, p20.2.1, p20.2.2.1, p20.2.2.2.1, p20.2.2.2.2.1, p20.2.2.2.2.2.1, p20.2.2.2.2.2.2.1, ())
   | Sum.inr p21 =>
    let x22 : Int := p21.2.2.2.2.2.2.2.2.2.2.1
    let b23 : Bool := p21.2.2.2.2.2.2.2.2.2.2.2.1
    let l24 : List ByteArray := p21.2.2.2.2.2.2.2.2.2.2.2.2.1
    some (p21.2.2.2.2.2.2.1, p21.2.2.2.2.2.2.2.1, p21.2.2.2.2.2.2.2.2.1, p21.2.2.2.2.2.2.2.2.2.1, x22, b23, l24, ())
noncomputable def spec_SendFrames.ent : Entry := ⟨[false, false], [.cell (.val .bor (.str)), .agg [.val .bor (.int .i64), .val .bor (.int .i64), .val .bor (.int .i64), .val .bor (.bool)]], [.agg [.val .bor (.int .i64), .val .bor (.str), .val .bor (.int .i64), .val .bor (.int .i64), .val .bor (.int .i64), .val .bor (.bool), .val .own (.slice (.str))]], [], fun v => spec_SendFrames v.1 v.2.1 v.2.2.1 v.2.2.2.1 v.2.2.2.2.1⟩
theorem spec_SendFrames.eq : ∀ v, evFn spec_SendFrames.E f7 spec_SendFrames.ent.ptrs spec_SendFrames.ent.ins spec_SendFrames.ent.rets spec_SendFrames.ent.outs v = spec_SendFrames.ent.f v := by intro v; kernel_rfl
theorem spec_SendFrames.fok : ∀ q ∈ [((26 : Nat), spec_PackedFault.ent), ((27 : Nat), spec_TakePacked.ent), ((24 : Nat), spec_GatherBufs.ent), ((28 : Nat), spec_l11Told.ent), ((29 : Nat), spec_GivePacked.ent)], EntryOK Pr q.1 q.2 := by
 intro q hq
 simp only [List.mem_cons, List.mem_nil_iff, or_false] at hq
 rcases hq with rfl | rfl | rfl | rfl | rfl
 · exact spec_PackedFault.ok
 · exact spec_TakePacked.ok
 · exact spec_GatherBufs.ok
 · exact spec_l11Told.ok
 · exact spec_GivePacked.ok
theorem spec_SendFrames_l6.it : ∀ n v, iter (evStep spec_SendFrames.E6 (bodyAt 6 f7) spec_SendFrames_l6.ent.ins spec_SendFrames_l6.ent.rts spec_SendFrames_l6.ent.hm spec_SendFrames_l6.ent.nl spec_SendFrames_l6.ent.xs) n v = spec_SendFrames_l6 n v.1 v.2.1 v.2.2.1 v.2.2.2.1 v.2.2.2.2.1 v.2.2.2.2.2.1 v.2.2.2.2.2.2.1 v.2.2.2.2.2.2.2.1 v.2.2.2.2.2.2.2.2.1 v.2.2.2.2.2.2.2.2.2.1 v.2.2.2.2.2.2.2.2.2.2.1 v.2.2.2.2.2.2.2.2.2.2.2.1 v.2.2.2.2.2.2.2.2.2.2.2.2.1 := by
 intro n
 induction n with
 | zero => intro v; rfl
 | succ n ih =>
  intro v
  show (evStep spec_SendFrames.E6 (bodyAt 6 f7) spec_SendFrames_l6.ent.ins spec_SendFrames_l6.ent.rts spec_SendFrames_l6.ent.hm spec_SendFrames_l6.ent.nl spec_SendFrames_l6.ent.xs) (iter (evStep spec_SendFrames.E6 (bodyAt 6 f7) spec_SendFrames_l6.ent.ins spec_SendFrames_l6.ent.rts spec_SendFrames_l6.ent.hm spec_SendFrames_l6.ent.nl spec_SendFrames_l6.ent.xs) n) v = _
  rw [spec_SendFrames_l6.eq, show (fun c0 c1 c2 c3 c4 c5 c6 c7 c8 c9 c10 c11 c12 => iter (evStep spec_SendFrames.E6 (bodyAt 6 f7) spec_SendFrames_l6.ent.ins spec_SendFrames_l6.ent.rts spec_SendFrames_l6.ent.hm spec_SendFrames_l6.ent.nl spec_SendFrames_l6.ent.xs) n (c0, c1, c2, c3, c4, c5, c6, c7, c8, c9, c10, c11, c12, ())) = spec_SendFrames_l6 n from by funext c0 c1 c2 c3 c4 c5 c6 c7 c8 c9 c10 c11 c12; exact ih _]
  rfl
theorem spec_SendFrames_l6.fr : firstRegion (bodyAt 6 f7) = 6 := by kernel_rfl
theorem spec_SendFrames_l6.ls : loopsOf (bodyAt 6 f7) = [] := by kernel_rfl
theorem spec_SendFrames_l6.lok {E : Env} (hpin : spec_SendFrames.E6.pin = E.pin) (hfind : find 6 E.loops = some spec_SendFrames_l6.ent) : LoopOK Pr E (bodyAt 6 f7) :=
 loop_of (E1 := spec_SendFrames.E6) (EnvOK.of dok spec_SendFrames.fok) mixed hpin (by rw [spec_SendFrames_l6.fr]; exact hfind) spec_SendFrames_l6.ls (by intro l hl; simp at hl) (fun v => (spec_SendFrames_l6.it K0 v).symm)
theorem spec_SendFrames.ls : loopsOf (bodyOf f7) = [bodyAt 6 f7] := by kernel_rfl
theorem spec_SendFrames.ok : EntryOK Pr 7 spec_SendFrames.ent :=
 entry_ok (E := spec_SendFrames.E) (EnvOK.of dok spec_SendFrames.fok) mixed (fn := f7) (by kernel_rfl) (by kernel_rfl) (by decide) spec_SendFrames.ls (by intro l hl; simp only [List.mem_singleton] at hl; subst hl; exact spec_SendFrames_l6.lok rfl rfl) spec_SendFrames.eq
/-! ### loop.example/g00038/impl.ybig -/
noncomputable def impl_ybig.E2 : Env := ⟨D, [], [], []⟩
noncomputable def impl_ybig_l2_step (rec : List ByteArray → Int → Int → Option ((Bool × Unit) ⊕ (Unit))) (y0 : List ByteArray) (y1 : Int) (y2 : Int) : Option ((Bool × Unit) ⊕ (Unit)) :=
 bif decide (y2 < y1) then
  bif decide (0 ≤ y2) && decide (y2 < (y0.length : Int)) then
   let b1 : Bool := decide (((rd (.str) y0 y2).size : Int) > 65536)
   bif b1 then
    some (Sum.inl (true, ()))
   else
    rec y0 y1 (wrap64 (y2 + 1))
  else none
 else
  some (Sum.inr ())
noncomputable def impl_ybig_l2 : Nat → List ByteArray → Int → Int → Option ((Bool × Unit) ⊕ (Unit))
 | 0 => fun _ _ _ => none
 | n + 1 => impl_ybig_l2_step (impl_ybig_l2 n)
noncomputable def impl_ybig_l2.ent : LEntry := ⟨sk 5 (.cell (.val .bor (.slice (.str))) :: (.cell (.val .bor (.int .i64)) :: (.cell (.val .bor (.int .i64)) :: (sk 7 [])))), rk 15 [], [], [], [⟨none, sk 2 (.cell (.val .bor (.bool)) :: (sk 12 [])), rk 15 [], [], []⟩, ⟨some 0, sk 15 [], rk 15 [], [], []⟩], fun v => impl_ybig_l2 K0 v.1 v.2.1 v.2.2.1⟩
theorem impl_ybig_l2.eq : ∀ rec v, evStep impl_ybig.E2 (bodyAt 2 f43) impl_ybig_l2.ent.ins impl_ybig_l2.ent.rts impl_ybig_l2.ent.hm impl_ybig_l2.ent.nl impl_ybig_l2.ent.xs rec v = impl_ybig_l2_step (fun c0 c1 c2 => rec (c0, c1, c2, ())) v.1 v.2.1 v.2.2.1 := by intro rec v; kernel_rfl
noncomputable def impl_ybig.E : Env := ⟨D, [], [], [(2, impl_ybig_l2.ent)]⟩
noncomputable def impl_ybig (a0 : List ByteArray) : Option (Bool × Unit) :=
 (impl_ybig_l2 K0 a0 (a0.length : Int) 0).bind fun o2 =>
 match o2 with
 | Sum.inl p3 =>
  some (p3.1, ())
 | Sum.inr p4 =>
  some (false, ())
noncomputable def impl_ybig.ent : Entry := ⟨[false], [.cell (.val .bor (.slice (.str)))], [.cell (.val .bor (.bool))], [], fun v => impl_ybig v.1⟩
theorem impl_ybig.eq : ∀ v, evFn impl_ybig.E f43 impl_ybig.ent.ptrs impl_ybig.ent.ins impl_ybig.ent.rets impl_ybig.ent.outs v = impl_ybig.ent.f v := by intro v; kernel_rfl
theorem impl_ybig.fok : ∀ q ∈ ([] : List (Nat × Entry)), EntryOK Pr q.1 q.2 := by intro q hq; simp at hq
theorem impl_ybig_l2.it : ∀ n v, iter (evStep impl_ybig.E2 (bodyAt 2 f43) impl_ybig_l2.ent.ins impl_ybig_l2.ent.rts impl_ybig_l2.ent.hm impl_ybig_l2.ent.nl impl_ybig_l2.ent.xs) n v = impl_ybig_l2 n v.1 v.2.1 v.2.2.1 := by
 intro n
 induction n with
 | zero => intro v; rfl
 | succ n ih =>
  intro v
  show (evStep impl_ybig.E2 (bodyAt 2 f43) impl_ybig_l2.ent.ins impl_ybig_l2.ent.rts impl_ybig_l2.ent.hm impl_ybig_l2.ent.nl impl_ybig_l2.ent.xs) (iter (evStep impl_ybig.E2 (bodyAt 2 f43) impl_ybig_l2.ent.ins impl_ybig_l2.ent.rts impl_ybig_l2.ent.hm impl_ybig_l2.ent.nl impl_ybig_l2.ent.xs) n) v = _
  rw [impl_ybig_l2.eq, show (fun c0 c1 c2 => iter (evStep impl_ybig.E2 (bodyAt 2 f43) impl_ybig_l2.ent.ins impl_ybig_l2.ent.rts impl_ybig_l2.ent.hm impl_ybig_l2.ent.nl impl_ybig_l2.ent.xs) n (c0, c1, c2, ())) = impl_ybig_l2 n from by funext c0 c1 c2; exact ih _]
  rfl
theorem impl_ybig_l2.fr : firstRegion (bodyAt 2 f43) = 2 := by kernel_rfl
theorem impl_ybig_l2.ls : loopsOf (bodyAt 2 f43) = [] := by kernel_rfl
theorem impl_ybig_l2.lok {E : Env} (hpin : impl_ybig.E2.pin = E.pin) (hfind : find 2 E.loops = some impl_ybig_l2.ent) : LoopOK Pr E (bodyAt 2 f43) :=
 loop_of (E1 := impl_ybig.E2) (EnvOK.of dok impl_ybig.fok) mixed hpin (by rw [impl_ybig_l2.fr]; exact hfind) impl_ybig_l2.ls (by intro l hl; simp at hl) (fun v => (impl_ybig_l2.it K0 v).symm)
theorem impl_ybig.ls : loopsOf (bodyOf f43) = [bodyAt 2 f43] := by kernel_rfl
theorem impl_ybig.ok : EntryOK Pr 43 impl_ybig.ent :=
 entry_ok (E := impl_ybig.E) (EnvOK.of dok impl_ybig.fok) mixed (fn := f43) (by kernel_rfl) (by kernel_rfl) (by decide) impl_ybig.ls (by intro l hl; simp only [List.mem_singleton] at hl; subst hl; exact impl_ybig_l2.lok rfl rfl) impl_ybig.eq
/-! ### loop.example/g00038/impl.ymemOk -/
noncomputable def impl_ymemOk.E : Env := ⟨D, [], [], []⟩
noncomputable def impl_ymemOk (a0 : ByteArray) : Option (Bool × Unit) :=
 let b1 : Bool := decide ((a0.size : Int) ≥ 256)
 let b2 : Bool := decide ((a0.size : Int) ≤ 65536)
 let x3 : Int := (Int.tmod (a0.size : Int) 256)
 let b4 : Bool := ((b1 && b2) && (x3 == 0))
 bif (!(b1 && b2) || (!((256 : Int) == 0))) then
  some (b4, ())
 else none
noncomputable def impl_ymemOk.ent : Entry := ⟨[false], [.cell (.val .bor (.str))], [.cell (.val .bor (.bool))], [], fun v => impl_ymemOk v.1⟩
theorem impl_ymemOk.eq : ∀ v, evFn impl_ymemOk.E f76 impl_ymemOk.ent.ptrs impl_ymemOk.ent.ins impl_ymemOk.ent.rets impl_ymemOk.ent.outs v = impl_ymemOk.ent.f v := by intro v; kernel_rfl
theorem impl_ymemOk.fok : ∀ q ∈ ([] : List (Nat × Entry)), EntryOK Pr q.1 q.2 := by intro q hq; simp at hq
theorem impl_ymemOk.ls : loopsOf (bodyOf f76) = [] := by kernel_rfl
theorem impl_ymemOk.ok : EntryOK Pr 76 impl_ymemOk.ent :=
 entry_ok (E := impl_ymemOk.E) (EnvOK.of dok impl_ymemOk.fok) mixed (fn := f76) (by kernel_rfl) (by kernel_rfl) (by decide) impl_ymemOk.ls (by intro l hl; simp at hl) impl_ymemOk.eq
/-! ### loop.example/g00038/impl.yin -/
noncomputable def impl_yin.E : Env := ⟨D, [], [], []⟩
noncomputable def impl_yin (a0 : Int) (a1 : Int) (a2 : Int) : Option (Bool × Unit) :=
 let b1 : Bool := (decide (a0 ≥ a1) && decide (a0 ≤ a2))
 some (b1, ())
noncomputable def impl_yin.ent : Entry := ⟨[false, false, false], [.cell (.val .bor (.int .i64)), .cell (.val .bor (.int .i64)), .cell (.val .bor (.int .i64))], [.cell (.val .bor (.bool))], [], fun v => impl_yin v.1 v.2.1 v.2.2.1⟩
theorem impl_yin.eq : ∀ v, evFn impl_yin.E f79 impl_yin.ent.ptrs impl_yin.ent.ins impl_yin.ent.rets impl_yin.ent.outs v = impl_yin.ent.f v := by intro v; kernel_rfl
theorem impl_yin.fok : ∀ q ∈ ([] : List (Nat × Entry)), EntryOK Pr q.1 q.2 := by intro q hq; simp at hq
theorem impl_yin.ls : loopsOf (bodyOf f79) = [] := by kernel_rfl
theorem impl_yin.ok : EntryOK Pr 79 impl_yin.ent :=
 entry_ok (E := impl_yin.E) (EnvOK.of dok impl_yin.fok) mixed (fn := f79) (by kernel_rfl) (by kernel_rfl) (by decide) impl_yin.ls (by intro l hl; simp at hl) impl_yin.eq
/-! ### loop.example/g00038/impl.yfits -/
noncomputable def impl_yfits.E : Env := ⟨D, [], [], []⟩
noncomputable def impl_yfits (a0 : Int) (a1 : Int) (a2 : Int) : Option (Bool × Unit) :=
 let b1 : Bool := (decide (a1 ≥ 0) && decide (a2 ≥ 0))
 let b2 : Bool := decide (a2 ≤ (wrap64 (a0 - a1)))
 let b3 : Bool := ((b1 && decide (a1 ≤ a0)) && b2)
 some (b3, ())
noncomputable def impl_yfits.ent : Entry := ⟨[false, false, false], [.cell (.val .bor (.int .i64)), .cell (.val .bor (.int .i64)), .cell (.val .bor (.int .i64))], [.cell (.val .bor (.bool))], [], fun v => impl_yfits v.1 v.2.1 v.2.2.1⟩
theorem impl_yfits.eq : ∀ v, evFn impl_yfits.E f87 impl_yfits.ent.ptrs impl_yfits.ent.ins impl_yfits.ent.rets impl_yfits.ent.outs v = impl_yfits.ent.f v := by intro v; kernel_rfl
theorem impl_yfits.fok : ∀ q ∈ ([] : List (Nat × Entry)), EntryOK Pr q.1 q.2 := by intro q hq; simp at hq
theorem impl_yfits.ls : loopsOf (bodyOf f87) = [] := by kernel_rfl
theorem impl_yfits.ok : EntryOK Pr 87 impl_yfits.ent :=
 entry_ok (E := impl_yfits.E) (EnvOK.of dok impl_yfits.fok) mixed (fn := f87) (by kernel_rfl) (by kernel_rfl) (by decide) impl_yfits.ls (by intro l hl; simp at hl) impl_yfits.eq
/-! ### loop.example/g00038/impl.yplace -/
noncomputable def impl_yplace.E : Env := ⟨D, [], [(87, impl_yfits.ent)], []⟩
noncomputable def impl_yplace (a0 : ByteArray) (a1 : Int) (a2 : Int) : Option (Bool × Unit) :=
 let r1 : Bool × Unit := (impl_yfits (a0.size : Int) a1 a2).getD (false, ())
 let b2 : Bool := (((Int.tmod a1 4) == 0) && r1.1)
 bif (!((4 : Int) == 0)) && (!((Int.tmod a1 4) == 0) || ((impl_yfits (a0.size : Int) a1 a2).isSome)) then
  some (b2, ())
 else none
noncomputable def impl_yplace.ent : Entry := ⟨[false, false, false], [.cell (.val .bor (.str)), .cell (.val .bor (.int .i64)), .cell (.val .bor (.int .i64))], [.cell (.val .bor (.bool))], [], fun v => impl_yplace v.1 v.2.1 v.2.2.1⟩
theorem impl_yplace.eq : ∀ v, evFn impl_yplace.E f78 impl_yplace.ent.ptrs impl_yplace.ent.ins impl_yplace.ent.rets impl_yplace.ent.outs v = impl_yplace.ent.f v := by intro v; kernel_rfl
theorem impl_yplace.fok : ∀ q ∈ [((87 : Nat), impl_yfits.ent)], EntryOK Pr q.1 q.2 := by
 intro q hq
 simp only [List.mem_cons, List.mem_nil_iff, or_false] at hq
 rcases hq with rfl
 · exact impl_yfits.ok
theorem impl_yplace.ls : loopsOf (bodyOf f78) = [] := by kernel_rfl
theorem impl_yplace.ok : EntryOK Pr 78 impl_yplace.ent :=
 entry_ok (E := impl_yplace.E) (EnvOK.of dok impl_yplace.fok) mixed (fn := f78) (by kernel_rfl) (by kernel_rfl) (by decide) impl_yplace.ls (by intro l hl; simp at hl) impl_yplace.eq
/-! ### loop.example/g00038/impl.PackedFault -/
noncomputable def impl_PackedFault.E : Env := ⟨D, [], [(76, impl_ymemOk.ent), (79, impl_yin.ent), (78, impl_yplace.ent)], []⟩
noncomputable def impl_PackedFault (a0 : ByteArray) (a1 : Int) (a2 : Int) (a3 : Int) (a4 : Bool) : Option (Int × Unit) :=
 (impl_ymemOk a0).bind fun r1 =>
 let r2 : Bool × Unit := (impl_yin a1 1 16).getD (false, ())
 let x3 : Int := (wrap64 ((16 : Int) * a1))
 let r4 : Bool × Unit := (impl_yplace a0 a2 x3).getD (false, ())
 let b5 : Bool := ((!r1.1 || !r2.1) || !r4.1)
 let r6 : Bool × Unit := (impl_yin a3 0 (wrap64 (a1 - 1))).getD (false, ())
 bif (!(!(!r1.1)) || ((impl_yin a1 1 16).isSome)) && ((!(!(!r1.1 || !r2.1)) || ((impl_yplace a0 a2 x3).isSome)) && (!(!b5) || ((impl_yin a3 0 (wrap64 (a1 - 1))).isSome))) then
  bif (b5 || !r6.1) then
   some (1, ())
  else
   some (0, ())
 else none
noncomputable def impl_PackedFault.ent : Entry := ⟨[false, false], [.cell (.val .bor (.str)), .agg [.val .bor (.int .i64), .val .bor (.int .i64), .val .bor (.int .i64), .val .bor (.bool)]], [.cell (.val .bor (.int .i64))], [], fun v => impl_PackedFault v.1 v.2.1 v.2.2.1 v.2.2.2.1 v.2.2.2.2.1⟩
theorem impl_PackedFault.eq : ∀ v, evFn impl_PackedFault.E f68 impl_PackedFault.ent.ptrs impl_PackedFault.ent.ins impl_PackedFault.ent.rets impl_PackedFault.ent.outs v = impl_PackedFault.ent.f v := by intro v; kernel_rfl
theorem impl_PackedFault.fok : ∀ q ∈ [((76 : Nat), impl_ymemOk.ent), ((79 : Nat), impl_yin.ent), ((78 : Nat), impl_yplace.ent)], EntryOK Pr q.1 q.2 := by
 intro q hq
 simp only [List.mem_cons, List.mem_nil_iff, or_false] at hq
 rcases hq with rfl | rfl | rfl
 · exact impl_ymemOk.ok
 · exact impl_yin.ok
 · exact impl_yplace.ok
theorem impl_PackedFault.ls : loopsOf (bodyOf f68) = [] := by kernel_rfl
theorem impl_PackedFault.ok : EntryOK Pr 68 impl_PackedFault.ent :=
 entry_ok (E := impl_PackedFault.E) (EnvOK.of dok impl_PackedFault.fok) mixed (fn := f68) (by kernel_rfl) (by kernel_rfl) (by decide) impl_PackedFault.ls (by intro l hl; simp at hl) impl_PackedFault.eq
/-! ### loop.example/g00038/impl.ymemPacked -/
noncomputable def impl_ymemPacked.E : Env := ⟨D, [], [(43, impl_ybig.ent), (68, impl_PackedFault.ent)], []⟩
noncomputable def impl_ymemPacked (a0 : ByteArray) (a1 : Int) (a2 : Int) (a3 : Int) (a4 : Bool) : Option (Int × Unit) :=
 (impl_ybig [a0]).bind fun r1 =>
 bif r1.1 then
  some (2, ())
 else
  (impl_PackedFault a0 a1 a2 a3 a4).bind fun r2 =>
  some (r2.1, ())
noncomputable def impl_ymemPacked.ent : Entry := ⟨[false, false], [.cell (.val .bor (.str)), .agg [.val .bor (.int .i64), .val .bor (.int .i64), .val .bor (.int .i64), .val .bor (.bool)]], [.cell (.val .bor (.int .i64))], [], fun v => impl_ymemPacked v.1 v.2.1 v.2.2.1 v.2.2.2.1 v.2.2.2.2.1⟩
theorem impl_ymemPacked.eq : ∀ v, evFn impl_ymemPacked.E f30 impl_ymemPacked.ent.ptrs impl_ymemPacked.ent.ins impl_ymemPacked.ent.rets impl_ymemPacked.ent.outs v = impl_ymemPacked.ent.f v := by intro v; kernel_rfl
theorem impl_ymemPacked.fok : ∀ q ∈ [((43 : Nat), impl_ybig.ent), ((68 : Nat), impl_PackedFault.ent)], EntryOK Pr q.1 q.2 := by
 intro q hq
 simp only [List.mem_cons, List.mem_nil_iff, or_false] at hq
 rcases hq with rfl | rfl
 · exact impl_ybig.ok
 · exact impl_PackedFault.ok
theorem impl_ymemPacked.ls : loopsOf (bodyOf f30) = [] := by kernel_rfl
theorem impl_ymemPacked.ok : EntryOK Pr 30 impl_ymemPacked.ent :=
 entry_ok (E := impl_ymemPacked.E) (EnvOK.of dok impl_ymemPacked.fok) mixed (fn := f30) (by kernel_rfl) (by kernel_rfl) (by decide) impl_ymemPacked.ls (by intro l hl; simp at hl) impl_ymemPacked.eq
/-! ### loop.example/g00038/impl.ywordAt -/
noncomputable def impl_ywordAt.E : Env := ⟨D, [], [], []⟩
noncomputable def impl_ywordAt (a0 : ByteArray) (a1 : Int) : Option (Int × Unit) :=
 let x1 : Int := (wrap64 (bt a0 (wrap64 (a1 + 1))))
 let x2 : Int := (bits .or .i64 (wrap64 (bt a0 a1)) (shl .i64 x1 8))
 let x3 : Int := (wrap64 (bt a0 (wrap64 (a1 + 2))))
 let x4 : Int := (bits .or .i64 x2 (shl .i64 x3 16))
 let x5 : Int := (wrap64 (bt a0 (wrap64 (a1 + 3))))
 let x6 : Int := (bits .or .i64 x4 (shl .i64 x5 24))
 bif (decide (0 ≤ a1) && decide (a1 < (a0.size : Int))) && ((decide (0 ≤ (wrap64 (a1 + 1))) && decide ((wrap64 (a1 + 1)) < (a0.size : Int))) && ((decide (0 ≤ (8 : Int))) && ((decide (0 ≤ (wrap64 (a1 + 2))) && decide ((wrap64 (a1 + 2)) < (a0.size : Int))) && ((decide (0 ≤ (16 : Int))) && ((decide (0 ≤ (wrap64 (a1 + 3))) && decide ((wrap64 (a1 + 3)) < (a0.size : Int))) && (decide (0 ≤ (24 : Int)))))))) then
  some (x6, ())
 else none
noncomputable def impl_ywordAt.ent : Entry := ⟨[false, false], [.cell (.val .bor (.str)), .cell (.val .bor (.int .i64))], [.cell (.val .bor (.int .i64))], [], fun v => impl_ywordAt v.1 v.2.1⟩
theorem impl_ywordAt.eq : ∀ v, evFn impl_ywordAt.E f80 impl_ywordAt.ent.ptrs impl_ywordAt.ent.ins impl_ywordAt.ent.rets impl_ywordAt.ent.outs v = impl_ywordAt.ent.f v := by intro v; kernel_rfl
theorem impl_ywordAt.fok : ∀ q ∈ ([] : List (Nat × Entry)), EntryOK Pr q.1 q.2 := by intro q hq; simp at hq
theorem impl_ywordAt.ls : loopsOf (bodyOf f80) = [] := by kernel_rfl
theorem impl_ywordAt.ok : EntryOK Pr 80 impl_ywordAt.ent :=
 entry_ok (E := impl_ywordAt.E) (EnvOK.of dok impl_ywordAt.fok) mixed (fn := f80) (by kernel_rfl) (by kernel_rfl) (by decide) impl_ywordAt.ls (by intro l hl; simp at hl) impl_ywordAt.eq
/-! ### loop.example/g00038/impl.yreadDesc -/
noncomputable def impl_yreadDesc.E3 : Env := ⟨D, [], [(80, impl_ywordAt.ent)], []⟩
noncomputable def impl_yreadDesc_l3_step (rec : ByteArray → Int → Int → Int → Int → Int → Int → Int → Int → Int → Int → Option ((Int × Int × Int × Int × Int × Int × Int × Int × Unit))) (y0 : ByteArray) (y1 : Int) (y2 : Int) (y3 : Int) (y4 : Int) (y5 : Int) (y6 : Int) (y7 : Int) (y8 : Int) (y9 : Int) (y10 : Int) : Option ((Int × Int × Int × Int × Int × Int × Int × Int × Unit)) :=
 bif decide (y2 < 4) then
  let x1 : Int := (wrap64 ((4 : Int) * y2))
  (impl_ywordAt y0 (wrap64 (y1 + x1))).bind fun r2 =>
  let x3 : Int := (bif (y2 == 0) then r2.1 else y7)
  let x4 : Int := (bif (y2 == 1) then r2.1 else y8)
  let x5 : Int := (bif (y2 == 2) then r2.1 else y9)
  let x6 : Int := (bif (y2 == 3) then r2.1 else y10)
  bif decide (0 ≤ y2) && decide (y2 < 4) then
   rec y0 y1 (wrap64 (y2 + 1)) y3 y4 y5 y6 x3 x4 x5 x6
  else none
 else
  some (y3, y4, y5, y6, y7, y8, y9, y10, ())
noncomputable def impl_yreadDesc_l3 : Nat → ByteArray → Int → Int → Int → Int → Int → Int → Int → Int → Int → Int → Option ((Int × Int × Int × Int × Int × Int × Int × Int × Unit))
 | 0 => fun _ _ _ _ _ _ _ _ _ _ _ => none
 | n + 1 => impl_yreadDesc_l3_step (impl_yreadDesc_l3 n)
noncomputable def impl_yreadDesc_l3.ent : LEntry := ⟨(.cell (.val .bor (.str)) :: (.cell (.val .bor (.int .i64)) :: (sk 2 (.cell (.fix (.ptr 4 0)) :: (.cell (.fix (.ptr 5 0)) :: (sk 1 (.cell (.val .bor (.int .i64)) :: (sk 12 [])))))))), rk 4 ([.val .bor (.int .i64), .val .bor (.int .i64), .val .bor (.int .i64), .val .bor (.int .i64)] :: ([.val .bor (.int .i64), .val .bor (.int .i64), .val .bor (.int .i64), .val .bor (.int .i64)] :: (rk 14 []))), [], [], [⟨some 0, sk 4 (.cell (.fix (.ptr 4 0)) :: (.cell (.fix (.ptr 5 0)) :: (sk 14 []))), rk 4 ([.val .bor (.int .i64), .val .bor (.int .i64), .val .bor (.int .i64), .val .bor (.int .i64)] :: ([.val .bor (.int .i64), .val .bor (.int .i64), .val .bor (.int .i64), .val .bor (.int .i64)] :: (rk 14 []))), [], []⟩], fun v => impl_yreadDesc_l3 K0 v.1 v.2.1 v.2.2.1 v.2.2.2.1 v.2.2.2.2.1 v.2.2.2.2.2.1 v.2.2.2.2.2.2.1 v.2.2.2.2.2.2.2.1 v.2.2.2.2.2.2.2.2.1 v.2.2.2.2.2.2.2.2.2.1 v.2.2.2.2.2.2.2.2.2.2.1⟩
theorem impl_yreadDesc_l3.eq : ∀ rec v, evStep impl_yreadDesc.E3 (bodyAt 3 f69) impl_yreadDesc_l3.ent.ins impl_yreadDesc_l3.ent.rts impl_yreadDesc_l3.ent.hm impl_yreadDesc_l3.ent.nl impl_yreadDesc_l3.ent.xs rec v = impl_yreadDesc_l3_step (fun c0 c1 c2 c3 c4 c5 c6 c7 c8 c9 c10 => rec (c0, c1, c2, c3, c4, c5, c6, c7, c8, c9, c10, ())) v.1 v.2.1 v.2.2.1 v.2.2.2.1 v.2.2.2.2.1 v.2.2.2.2.2.1 v.2.2.2.2.2.2.1 v.2.2.2.2.2.2.2.1 v.2.2.2.2.2.2.2.2.1 v.2.2.2.2.2.2.2.2.2.1 v.2.2.2.2.2.2.2.2.2.2.1 := by intro rec v; kernel_rfl
noncomputable def impl_yreadDesc.E : Env := ⟨D, [], [(80, impl_ywordAt.ent)], [(3, impl_yreadDesc_l3.ent)]⟩
noncomputable def impl_yreadDesc (a0 : ByteArray) (a1 : Int) : Option (Int × Int × Int × Int × Unit) :=
 (impl_yreadDesc_l3 K0 a0 a1 0 0 0 0 0 0 0 0 0).bind fun o7 =>
 some (o7.2.2.2.2.1, o7.2.2.2.2.2.1, o7.2.2.2.2.2.2.1, o7.2.2.2.2.2.2.2.1, ())
noncomputable def impl_yreadDesc.ent : Entry := ⟨[false, false], [.cell (.val .bor (.str)), .cell (.val .bor (.int .i64))], [.agg [.val .bor (.int .i64), .val .bor (.int .i64), .val .bor (.int .i64), .val .bor (.int .i64)]], [], fun v => impl_yreadDesc v.1 v.2.1⟩
theorem impl_yreadDesc.eq : ∀ v, evFn impl_yreadDesc.E f69 impl_yreadDesc.ent.ptrs impl_yreadDesc.ent.ins impl_yreadDesc.ent.rets impl_yreadDesc.ent.outs v = impl_yreadDesc.ent.f v := by intro v; kernel_rfl
theorem impl_yreadDesc.fok : ∀ q ∈ [((80 : Nat), impl_ywordAt.ent)], EntryOK Pr q.1 q.2 := by
 intro q hq
 simp only [List.mem_cons, List.mem_nil_iff, or_false] at hq
 rcases hq with rfl
 · exact impl_ywordAt.ok
theorem impl_yreadDesc_l3.it : ∀ n v, iter (evStep impl_yreadDesc.E3 (bodyAt 3 f69) impl_yreadDesc_l3.ent.ins impl_yreadDesc_l3.ent.rts impl_yreadDesc_l3.ent.hm impl_yreadDesc_l3.ent.nl impl_yreadDesc_l3.ent.xs) n v = impl_yreadDesc_l3 n v.1 v.2.1 v.2.2.1 v.2.2.2.1 v.2.2.2.2.1 v.2.2.2.2.2.1 v.2.2.2.2.2.2.1 v.2.2.2.2.2.2.2.1 v.2.2.2.2.2.2.2.2.1 v.2.2.2.2.2.2.2.2.2.1 v.2.2.2.2.2.2.2.2.2.2.1 := by
 intro n
 induction n with
 | zero => intro v; rfl
 | succ n ih =>
  intro v
  show (evStep impl_yreadDesc.E3 (bodyAt 3 f69) impl_yreadDesc_l3.ent.ins impl_yreadDesc_l3.ent.rts impl_yreadDesc_l3.ent.hm impl_yreadDesc_l3.ent.nl impl_yreadDesc_l3.ent.xs) (iter (evStep impl_yreadDesc.E3 (bodyAt 3 f69) impl_yreadDesc_l3.ent.ins impl_yreadDesc_l3.ent.rts impl_yreadDesc_l3.ent.hm impl_yreadDesc_l3.ent.nl impl_yreadDesc_l3.ent.xs) n) v = _
  rw [impl_yreadDesc_l3.eq, show (fun c0 c1 c2 c3 c4 c5 c6 c7 c8 c9 c10 => iter (evStep impl_yreadDesc.E3 (bodyAt 3 f69) impl_yreadDesc_l3.ent.ins impl_yreadDesc_l3.ent.rts impl_yreadDesc_l3.ent.hm impl_yreadDesc_l3.ent.nl impl_yreadDesc_l3.ent.xs) n (c0, c1, c2, c3, c4, c5, c6, c7, c8, c9, c10, ())) = impl_yreadDesc_l3 n from by funext c0 c1 c2 c3 c4 c5 c6 c7 c8 c9 c10; exact ih _]
  rfl
theorem impl_yreadDesc_l3.fr : firstRegion (bodyAt 3 f69) = 3 := by kernel_rfl
theorem impl_yreadDesc_l3.ls : loopsOf (bodyAt 3 f69) = [] := by kernel_rfl
theorem impl_yreadDesc_l3.lok {E : Env} (hpin : impl_yreadDesc.E3.pin = E.pin) (hfind : find 3 E.loops = some impl_yreadDesc_l3.ent) : LoopOK Pr E (bodyAt 3 f69) :=
 loop_of (E1 := impl_yreadDesc.E3) (EnvOK.of dok impl_yreadDesc.fok) mixed hpin (by rw [impl_yreadDesc_l3.fr]; exact hfind) impl_yreadDesc_l3.ls (by intro l hl; simp at hl) (fun v => (impl_yreadDesc_l3.it K0 v).symm)
theorem impl_yreadDesc.ls : loopsOf (bodyOf f69) = [bodyAt 3 f69] := by kernel_rfl
theorem impl_yreadDesc.ok : EntryOK Pr 69 impl_yreadDesc.ent :=
 entry_ok (E := impl_yreadDesc.E) (EnvOK.of dok impl_yreadDesc.fok) mixed (fn := f69) (by kernel_rfl) (by kernel_rfl) (by decide) impl_yreadDesc.ls (by intro l hl; simp only [List.mem_singleton] at hl; subst hl; exact impl_yreadDesc_l3.lok rfl rfl) impl_yreadDesc.eq
/-! ### (loop.example/g00038/impl.ydesc).has -/
noncomputable def impl_ydesc_has.E : Env := ⟨D, [], [], []⟩
noncomputable def impl_ydesc_has (a0 : Int) (a1 : Int) (a2 : Int) (a3 : Int) (a4 : Int) : Option (Bool × Unit) :=
 let b1 : Bool := ((bits .and .i64 a2 a4) != 0)
 some (b1, ())
noncomputable def impl_ydesc_has.ent : Entry := ⟨[false, false], [.agg [.val .bor (.int .i64), .val .bor (.int .i64), .val .bor (.int .i64), .val .bor (.int .i64)], .cell (.val .bor (.int .i64))], [.cell (.val .bor (.bool))], [], fun v => impl_ydesc_has v.1 v.2.1 v.2.2.1 v.2.2.2.1 v.2.2.2.2.1⟩
theorem impl_ydesc_has.eq : ∀ v, evFn impl_ydesc_has.E f70 impl_ydesc_has.ent.ptrs impl_ydesc_has.ent.ins impl_ydesc_has.ent.rets impl_ydesc_has.ent.outs v = impl_ydesc_has.ent.f v := by intro v; kernel_rfl
theorem impl_ydesc_has.fok : ∀ q ∈ ([] : List (Nat × Entry)), EntryOK Pr q.1 q.2 := by intro q hq; simp at hq
theorem impl_ydesc_has.ls : loopsOf (bodyOf f70) = [] := by kernel_rfl
theorem impl_ydesc_has.ok : EntryOK Pr 70 impl_ydesc_has.ent :=
 entry_ok (E := impl_ydesc_has.E) (EnvOK.of dok impl_ydesc_has.fok) mixed (fn := f70) (by kernel_rfl) (by kernel_rfl) (by decide) impl_ydesc_has.ls (by intro l hl; simp at hl) impl_ydesc_has.eq
/-! ### (loop.example/g00038/impl.ydesc).buf -/
noncomputable def impl_ydesc_buf.E : Env := ⟨D, [], [(70, impl_ydesc_has.ent)], []⟩
noncomputable def impl_ydesc_buf (a0 : Int) (a1 : Int) (a2 : Int) (a3 : Int) : Option (Int × Int × Bool × Unit) :=
 (impl_ydesc_has a0 a1 a2 a3 2).bind fun r1 =>
 some (a0, a1, r1.1, ())
noncomputable def impl_ydesc_buf.ent : Entry := ⟨[false], [.agg [.val .bor (.int .i64), .val .bor (.int .i64), .val .bor (.int .i64), .val .bor (.int .i64)]], [.agg [.val .bor (.int .i64), .val .bor (.int .i64), .val .bor (.bool)]], [], fun v => impl_ydesc_buf v.1 v.2.1 v.2.2.1 v.2.2.2.1⟩
theorem impl_ydesc_buf.eq : ∀ v, evFn impl_ydesc_buf.E f88 impl_ydesc_buf.ent.ptrs impl_ydesc_buf.ent.ins impl_ydesc_buf.ent.rets impl_ydesc_buf.ent.outs v = impl_ydesc_buf.ent.f v := by intro v; kernel_rfl
theorem impl_ydesc_buf.fok : ∀ q ∈ [((70 : Nat), impl_ydesc_has.ent)], EntryOK Pr q.1 q.2 := by
 intro q hq
 simp only [List.mem_cons, List.mem_nil_iff, or_false] at hq
 rcases hq with rfl
 · exact impl_ydesc_has.ok
theorem impl_ydesc_buf.ls : loopsOf (bodyOf f88) = [] := by kernel_rfl
theorem impl_ydesc_buf.ok : EntryOK Pr 88 impl_ydesc_buf.ent :=
 entry_ok (E := impl_ydesc_buf.E) (EnvOK.of dok impl_ydesc_buf.fok) mixed (fn := f88) (by kernel_rfl) (by kernel_rfl) (by decide) impl_ydesc_buf.ls (by intro l hl; simp at hl) impl_ydesc_buf.eq
/-! ### loop.example/g00038/impl.yadd -/
noncomputable def impl_yadd_v4.E : Env := ⟨D, [], [(87, impl_yfits.ent), (70, impl_ydesc_has.ent), (88, impl_ydesc_buf.ent)], []⟩
noncomputable def impl_yadd_v4 (a0 : ByteArray) (a1 : List V1) (a2 : Int) (a3 : Int) (a4 : Int) (a5 : Int) : Option (List V1 × Int × Unit) :=
 (impl_yfits (a0.size : Int) a2 a3).bind fun r1 =>
 bif !r1.1 then
  some ([], 2, ())
 else
  let b2 : Bool := decide ((a1.length : Int) > 0)
  let x3 : Int := (wrap64 ((a1.length : Int) - 1))
  let e4 : V1 := rd R1 a1 x3
  let r5 : Bool × Unit := (impl_ydesc_has a2 a3 a4 a5 2).getD (false, ())
  let b6 : Bool := ((b2 && e4.2.2) && !r5.1)
  bif (!b2 || (decide (0 ≤ x3) && decide (x3 < (a1.length : Int)))) && (!(b2 && e4.2.2) || ((impl_ydesc_has a2 a3 a4 a5 2).isSome)) then
   bif b6 then
    some ([], 6, ())
   else
    (impl_ydesc_buf a2 a3 a4 a5).bind fun r7 =>
    let l8 : List V1 := [(r7.1, r7.2.1, r7.2.2.1)]
    bif roomy ((a1.length : Int) + (l8.length : Int)) 24 then
     some ((a1 ++ l8), 0, ())
    else none
  else none
noncomputable def impl_yadd_v4.ent : Entry := ⟨[false, false, false], [.cell (.val .bor (.str)), .cell (.val .own (.slice R1)), .agg [.val .bor (.int .i64), .val .bor (.int .i64), .val .bor (.int .i64), .val .bor (.int .i64)]], [.cell (.val .own (.slice R1)), .cell (.val .bor (.int .i64))], [], fun v => impl_yadd_v4 v.1 v.2.1 v.2.2.1 v.2.2.2.1 v.2.2.2.2.1 v.2.2.2.2.2.1⟩
theorem impl_yadd_v4.eq : ∀ v, evFn impl_yadd_v4.E f71 impl_yadd_v4.ent.ptrs impl_yadd_v4.ent.ins impl_yadd_v4.ent.rets impl_yadd_v4.ent.outs v = impl_yadd_v4.ent.f v := by intro v; kernel_rfl
theorem impl_yadd_v4.fok : ∀ q ∈ [((87 : Nat), impl_yfits.ent), ((70 : Nat), impl_ydesc_has.ent), ((88 : Nat), impl_ydesc_buf.ent)], EntryOK Pr q.1 q.2 := by
 intro q hq
 simp only [List.mem_cons, List.mem_nil_iff, or_false] at hq
 rcases hq with rfl | rfl | rfl
 · exact impl_yfits.ok
 · exact impl_ydesc_has.ok
 · exact impl_ydesc_buf.ok
theorem impl_yadd_v4.ls : loopsOf (bodyOf f71) = [] := by kernel_rfl
theorem impl_yadd_v4.ok : EntryOK Pr 71 impl_yadd_v4.ent :=
 entry_ok (E := impl_yadd_v4.E) (EnvOK.of dok impl_yadd_v4.fok) mixed (fn := f71) (by kernel_rfl) (by kernel_rfl) (by decide) impl_yadd_v4.ls (by intro l hl; simp at hl) impl_yadd_v4.eq
/-! ### loop.example/g00038/impl.ytakePacked -/
noncomputable def impl_ytakePacked.E6 : Env := ⟨D, [], [(69, impl_yreadDesc.ent), (70, impl_ydesc_has.ent), (71, impl_yadd_v4.ent)], []⟩
noncomputable def impl_ytakePacked_l6_step (rec : ByteArray → Int → Int → Int → Int → Bool → Int → Int → Int → Int → Int → Int → Int → Int → Int → Int → List V1 → Option ((Int × Int × Int × List V1 × Unit))) (y0 : ByteArray) (y1 : Int) (y2 : Int) (y3 : Int) (y4 : Int) (y5 : Bool) (y6 : Int) (y7 : Int) (y8 : Int) (y9 : Int) (y10 : Int) (y11 : Int) (y12 : Int) (y13 : Int) (y14 : Int) (y15 : Int) (y16 : List V1) : Option ((Int × Int × Int × List V1 × Unit)) :=
 let b14 : Bool := decide ((wrap64 (y15 + 1)) > y2)
 bif b14 then
  some (9, 0, 0, [], ())
 else
  (impl_ydesc_has y9 y10 y11 y12 4).bind fun r15 =>
  bif r15.1 then
   some (3, 0, 0, [], ())
  else
   (impl_yadd_v4 y0 y16 y9 y10 y11 y12).bind fun r16 =>
   bif (r16.2.1 != 0) then
    some (r16.2.1, 0, 0, [], ())
   else
    (impl_ydesc_has y9 y10 y11 y12 1).bind fun r17 =>
    bif !r17.1 then
     let x18 : Int := (bits .and .i64 y12 65535)
     some (y13, x18, (wrap64 (y15 + 1)), r16.1, ())
    else
     let x19 : Int := (Int.tmod (wrap64 (y1 + 1)) y2)
     bif !(y2 == 0) then
      let x20 : Int := (wrap64 ((16 : Int) * x19))
      (impl_yreadDesc y0 (wrap64 (y3 + x20))).bind fun r21 =>
      rec y0 x19 y2 y3 y4 y5 y6 y7 y8 r21.1 r21.2.1 r21.2.2.1 r21.2.2.2.1 y13 y14 (wrap64 (y15 + 1)) r16.1
     else none
noncomputable def impl_ytakePacked_l6 : Nat → ByteArray → Int → Int → Int → Int → Bool → Int → Int → Int → Int → Int → Int → Int → Int → Int → Int → List V1 → Option ((Int × Int × Int × List V1 × Unit))
 | 0 => fun _ _ _ _ _ _ _ _ _ _ _ _ _ _ _ _ _ => none
 | n + 1 => impl_ytakePacked_l6_step (impl_ytakePacked_l6 n)
noncomputable def impl_ytakePacked_l6.ent : LEntry := ⟨(.cell (.val .bor (.str)) :: (sk 2 (.cell (.fix (.ptr 3 0)) :: (.cell (.fix (.ptr 4 0)) :: (.cell (.val .bor (.int .i64)) :: (.cell (.fix (.ptr 6 0)) :: (.cell (.fix (.ptr 7 0)) :: (sk 70 [])))))))), rk 3 ([.val .bor (.int .i64), .val .bor (.int .i64), .val .bor (.int .i64), .val .bor (.bool)] :: ([.val .bor (.int .i64), .val .bor (.int .i64), .val .bor (.int .i64), .fix (.nil)] :: (rk 1 ([.val .bor (.int .i64), .val .bor (.int .i64), .val .bor (.int .i64), .val .bor (.int .i64)] :: ([.val .bor (.int .i64), .val .bor (.int .i64), .val .bor (.int .i64), .val .own (.slice R1)] :: (rk 70 [])))))), [], [(7, 3, true, .pair (.int .i64) (.pair (.int .i64) (.bool)))], [⟨none, sk 4 (.cell (.fix (.ptr 4 0)) :: (sk 73 [])), rk 4 ([.val .bor (.int .i64), .val .bor (.int .i64), .val .bor (.int .i64), .val .own (.slice R1)] :: (rk 73 [])), [], [(4, 3, true, .pair (.int .i64) (.pair (.int .i64) (.bool)))]⟩], fun v => impl_ytakePacked_l6 K0 v.1 v.2.1 v.2.2.1 v.2.2.2.1 v.2.2.2.2.1 v.2.2.2.2.2.1 v.2.2.2.2.2.2.1 v.2.2.2.2.2.2.2.1 v.2.2.2.2.2.2.2.2.1 v.2.2.2.2.2.2.2.2.2.1 v.2.2.2.2.2.2.2.2.2.2.1 v.2.2.2.2.2.2.2.2.2.2.2.1 v.2.2.2.2.2.2.2.2.2.2.2.2.1 v.2.2.2.2.2.2.2.2.2.2.2.2.2.1 v.2.2.2.2.2.2.2.2.2.2.2.2.2.2.1 v.2.2.2.2.2.2.2.2.2.2.2.2.2.2.2.1 v.2.2.2.2.2.2.2.2.2.2.2.2.2.2.2.2.1⟩
theorem impl_ytakePacked_l6.eq : ∀ rec v, evStep impl_ytakePacked.E6 (bodyAt 6 f31) impl_ytakePacked_l6.ent.ins impl_ytakePacked_l6.ent.rts impl_ytakePacked_l6.ent.hm impl_ytakePacked_l6.ent.nl impl_ytakePacked_l6.ent.xs rec v = impl_ytakePacked_l6_step (fun c0 c1 c2 c3 c4 c5 c6 c7 c8 c9 c10 c11 c12 c13 c14 c15 c16 => rec (c0, c1, c2, c3, c4, c5, c6, c7, c8, c9, c10, c11, c12, c13, c14, c15, c16, ())) v.1 v.2.1 v.2.2.1 v.2.2.2.1 v.2.2.2.2.1 v.2.2.2.2.2.1 v.2.2.2.2.2.2.1 v.2.2.2.2.2.2.2.1 v.2.2.2.2.2.2.2.2.1 v.2.2.2.2.2.2.2.2.2.1 v.2.2.2.2.2.2.2.2.2.2.1 v.2.2.2.2.2.2.2.2.2.2.2.1 v.2.2.2.2.2.2.2.2.2.2.2.2.1 v.2.2.2.2.2.2.2.2.2.2.2.2.2.1 v.2.2.2.2.2.2.2.2.2.2.2.2.2.2.1 v.2.2.2.2.2.2.2.2.2.2.2.2.2.2.2.1 v.2.2.2.2.2.2.2.2.2.2.2.2.2.2.2.2.1 := by intro rec v; kernel_rfl
noncomputable def impl_ytakePacked.E : Env := ⟨D, [], [(69, impl_yreadDesc.ent), (70, impl_ydesc_has.ent), (71, impl_yadd_v4.ent)], [(6, impl_ytakePacked_l6.ent)]⟩
noncomputable def impl_ytakePacked (a0 : ByteArray) (a1 : Int) (a2 : Int) (a3 : Int) (a4 : Bool) : Option (Int × Int × Int × List V1 × Unit) :=
 let x1 : Int := (wrap64 ((16 : Int) * a3))
 (impl_yreadDesc a0 (wrap64 (a2 + x1))).bind fun r2 =>
 let r3 : Bool × Unit := (impl_ydesc_has r2.1 r2.2.1 r2.2.2.1 r2.2.2.2.1 128).getD (false, ())
 let r4 : Bool × Unit := (impl_ydesc_has r2.1 r2.2.1 r2.2.2.1 r2.2.2.2.1 32768).getD (false, ())
 let b5 : Bool := (!(r3.1 == a4) || (r4.1 == a4))
 bif ((impl_ydesc_has r2.1 r2.2.1 r2.2.2.1 r2.2.2.2.1 128).isSome) && (!(!(!(r3.1 == a4))) || ((impl_ydesc_has r2.1 r2.2.1 r2.2.2.1 r2.2.2.2.1 32768).isSome)) then
  bif b5 then
   some (5, 0, 0, [], ())
  else
   (impl_ytakePacked_l6 K0 a0 a3 a1 a2 a3 a4 0 0 0 r2.1 r2.2.1 r2.2.2.1 r2.2.2.2.1 0 0 0 []).bind fun o22 =>
   some (o22.1, o22.2.1, o22.2.2.1, o22.2.2.2.1, ())
 else none
noncomputable def impl_ytakePacked.ent : Entry := ⟨[false, false], [.cell (.val .bor (.str)), .agg [.val .bor (.int .i64), .val .bor (.int .i64), .val .bor (.int .i64), .val .bor (.bool)]], [.agg [.val .bor (.int .i64), .val .bor (.int .i64), .val .bor (.int .i64), .val .own (.slice R1)]], [], fun v => impl_ytakePacked v.1 v.2.1 v.2.2.1 v.2.2.2.1 v.2.2.2.2.1⟩
theorem impl_ytakePacked.eq : ∀ v, evFn impl_ytakePacked.E f31 impl_ytakePacked.ent.ptrs impl_ytakePacked.ent.ins impl_ytakePacked.ent.rets impl_ytakePacked.ent.outs v = impl_ytakePacked.ent.f v := by intro v; kernel_rfl
theorem impl_ytakePacked.fok : ∀ q ∈ [((69 : Nat), impl_yreadDesc.ent), ((70 : Nat), impl_ydesc_has.ent), ((71 : Nat), impl_yadd_v4.ent)], EntryOK Pr q.1 q.2 := by
 intro q hq
 simp only [List.mem_cons, List.mem_nil_iff, or_false] at hq
 rcases hq with rfl | rfl | rfl
 · exact impl_yreadDesc.ok
 · exact impl_ydesc_has.ok
 · exact impl_yadd_v4.ok
theorem impl_ytakePacked_l6.it : ∀ n v, iter (evStep impl_ytakePacked.E6 (bodyAt 6 f31) impl_ytakePacked_l6.ent.ins impl_ytakePacked_l6.ent.rts impl_ytakePacked_l6.ent.hm impl_ytakePacked_l6.ent.nl impl_ytakePacked_l6.ent.xs) n v = impl_ytakePacked_l6 n v.1 v.2.1 v.2.2.1 v.2.2.2.1 v.2.2.2.2.1 v.2.2.2.2.2.1 v.2.2.2.2.2.2.1 v.2.2.2.2.2.2.2.1 v.2.2.2.2.2.2.2.2.1 v.2.2.2.2.2.2.2.2.2.1 v.2.2.2.2.2.2.2.2.2.2.1 v.2.2.2.2.2.2.2.2.2.2.2.1 v.2.2.2.2.2.2.2.2.2.2.2.2.1 v.2.2.2.2.2.2.2.2.2.2.2.2.2.1 v.2.2.2.2.2.2.2.2.2.2.2.2.2.2.1 v.2.2.2.2.2.2.2.2.2.2.2.2.2.2.2.1 v.2.2.2.2.2.2.2.2.2.2.2.2.2.2.2.2.1 := by
 intro n
 induction n with
 | zero => intro v; rfl
 | succ n ih =>
  intro v
  show (evStep impl_ytakePacked.E6 (bodyAt 6 f31) impl_ytakePacked_l6.ent.ins impl_ytakePacked_l6.ent.rts impl_ytakePacked_l6.ent.hm impl_ytakePacked_l6.ent.nl impl_ytakePacked_l6.ent.xs) (iter (evStep impl_ytakePacked.E6 (bodyAt 6 f31) impl_ytakePacked_l6.ent.ins impl_ytakePacked_l6.ent.rts impl_ytakePacked_l6.ent.hm impl_ytakePacked_l6.ent.nl impl_ytakePacked_l6.ent.xs) n) v = _
  rw [impl_ytakePacked_l6.eq, show (fun c0 c1 c2 c3 c4 c5 c6 c7 c8 c9 c10 c11 c12 c13 c14 c15 c16 => iter (evStep impl_ytakePacked.E6 (bodyAt 6 f31) impl_ytakePacked_l6.ent.ins impl_ytakePacked_l6.ent.rts impl_ytakePacked_l6.ent.hm impl_ytakePacked_l6.ent.nl impl_ytakePacked_l6.ent.xs) n (c0, c1, c2, c3, c4, c5, c6, c7, c8, c9, c10, c11, c12, c13, c14, c15, c16, ())) = impl_ytakePacked_l6 n from by funext c0 c1 c2 c3 c4 c5 c6 c7 c8 c9 c10 c11 c12 c13 c14 c15 c16; exact ih _]
  rfl
theorem impl_ytakePacked_l6.fr : firstRegion (bodyAt 6 f31) = 6 := by kernel_rfl
theorem impl_ytakePacked_l6.ls : loopsOf (bodyAt 6 f31) = [] := by kernel_rfl
theorem impl_ytakePacked_l6.lok {E : Env} (hpin : impl_ytakePacked.E6.pin = E.pin) (hfind : find 6 E.loops = some impl_ytakePacked_l6.ent) : LoopOK Pr E (bodyAt 6 f31) :=
 loop_of (E1 := impl_ytakePacked.E6) (EnvOK.of dok impl_ytakePacked.fok) mixed hpin (by rw [impl_ytakePacked_l6.fr]; exact hfind) impl_ytakePacked_l6.ls (by intro l hl; simp at hl) (fun v => (impl_ytakePacked_l6.it K0 v).symm)
theorem impl_ytakePacked.ls : loopsOf (bodyOf f31) = [bodyAt 6 f31] := by kernel_rfl
theorem impl_ytakePacked.ok : EntryOK Pr 31 impl_ytakePacked.ent :=
 entry_ok (E := impl_ytakePacked.E) (EnvOK.of dok impl_ytakePacked.fok) mixed (fn := f31) (by kernel_rfl) (by kernel_rfl) (by decide) impl_ytakePacked.ls (by intro l hl; simp only [List.mem_singleton] at hl; subst hl; exact impl_ytakePacked_l6.lok rfl rfl) impl_ytakePacked.eq
/-! ### loop.example/g00038/impl.ysize -/
noncomputable def impl_ysize.E3 : Env := ⟨D, [], [], []⟩
noncomputable def impl_ysize_l3_step (rec : Bool → Int → List V1 → Int → Int → Option ((Int × Unit))) (y0 : Bool) (y1 : Int) (y2 : List V1) (y3 : Int) (y4 : Int) : Option ((Int × Unit)) :=
 bif decide (y4 < y3) then
  let e1 : V1 := rd R1 y2 y4
  bif decide (0 ≤ y4) && decide (y4 < (y2.length : Int)) then
   let b2 : Bool := (bif (e1.2.2 == y0) then y0 else y0)
   let x3 : Int := (bif (e1.2.2 == y0) then (wrap64 (y1 + e1.2.1)) else y1)
   let l4 : List V1 := (bif (e1.2.2 == y0) then y2 else y2)
   let x5 : Int := (bif (e1.2.2 == y0) then y3 else y3)
   let x6 : Int := (bif (e1.2.2 == y0) then y4 else y4)
   rec b2 x3 l4 x5 (wrap64 (x6 + 1))
  else none
 else
  some (y1, ())
noncomputable def impl_ysize_l3 : Nat → Bool → Int → List V1 → Int → Int → Option ((Int × Unit))
 | 0 => fun _ _ _ _ _ => none
 | n + 1 => impl_ysize_l3_step (impl_ysize_l3 n)
noncomputable def impl_ysize_l3.ent : LEntry := ⟨sk 1 (.cell (.val .bor (.bool)) :: (sk 3 (.cell (.val .bor (.int .i64)) :: (sk 2 (.cell (.val .bor (.slice R1)) :: (.cell (.val .bor (.int .i64)) :: (.cell (.val .bor (.int .i64)) :: (sk 13 [])))))))), rk 24 [], [], [], [⟨some 0, sk 5 (.cell (.val .bor (.int .i64)) :: (sk 18 [])), rk 24 [], [], []⟩], fun v => impl_ysize_l3 K0 v.1 v.2.1 v.2.2.1 v.2.2.2.1 v.2.2.2.2.1⟩
theorem impl_ysize_l3.eq : ∀ rec v, evStep impl_ysize.E3 (bodyAt 3 f32) impl_ysize_l3.ent.ins impl_ysize_l3.ent.rts impl_ysize_l3.ent.hm impl_ysize_l3.ent.nl impl_ysize_l3.ent.xs rec v = impl_ysize_l3_step (fun c0 c1 c2 c3 c4 => rec (c0, c1, c2, c3, c4, ())) v.1 v.2.1 v.2.2.1 v.2.2.2.1 v.2.2.2.2.1 := by intro rec v; kernel_rfl
noncomputable def impl_ysize.E : Env := ⟨D, [], [], [(3, impl_ysize_l3.ent)]⟩
noncomputable def impl_ysize (a0 : List V1) (a1 : Bool) : Option (Int × Unit) :=
 (impl_ysize_l3 K0 a1 0 a0 (a0.length : Int) 0).bind fun o12 =>
 some (o12.1, ())
noncomputable def impl_ysize.ent : Entry := ⟨[false, false], [.cell (.val .bor (.slice R1)), .cell (.val .bor (.bool))], [.cell (.val .bor (.int .i64))], [], fun v => impl_ysize v.1 v.2.1⟩
theorem impl_ysize.eq : ∀ v, evFn impl_ysize.E f32 impl_ysize.ent.ptrs impl_ysize.ent.ins impl_ysize.ent.rets impl_ysize.ent.outs v = impl_ysize.ent.f v := by intro v; kernel_rfl
theorem impl_ysize.fok : ∀ q ∈ ([] : List (Nat × Entry)), EntryOK Pr q.1 q.2 := by intro q hq; simp at hq
theorem impl_ysize_l3.it : ∀ n v, iter (evStep impl_ysize.E3 (bodyAt 3 f32) impl_ysize_l3.ent.ins impl_ysize_l3.ent.rts impl_ysize_l3.ent.hm impl_ysize_l3.ent.nl impl_ysize_l3.ent.xs) n v = impl_ysize_l3 n v.1 v.2.1 v.2.2.1 v.2.2.2.1 v.2.2.2.2.1 := by
 intro n
 induction n with
 | zero => intro v; rfl
 | succ n ih =>
  intro v
  show (evStep impl_ysize.E3 (bodyAt 3 f32) impl_ysize_l3.ent.ins impl_ysize_l3.ent.rts impl_ysize_l3.ent.hm impl_ysize_l3.ent.nl impl_ysize_l3.ent.xs) (iter (evStep impl_ysize.E3 (bodyAt 3 f32) impl_ysize_l3.ent.ins impl_ysize_l3.ent.rts impl_ysize_l3.ent.hm impl_ysize_l3.ent.nl impl_ysize_l3.ent.xs) n) v = _
  rw [impl_ysize_l3.eq, show (fun c0 c1 c2 c3 c4 => iter (evStep impl_ysize.E3 (bodyAt 3 f32) impl_ysize_l3.ent.ins impl_ysize_l3.ent.rts impl_ysize_l3.ent.hm impl_ysize_l3.ent.nl impl_ysize_l3.ent.xs) n (c0, c1, c2, c3, c4, ())) = impl_ysize_l3 n from by funext c0 c1 c2 c3 c4; exact ih _]
  rfl
theorem impl_ysize_l3.fr : firstRegion (bodyAt 3 f32) = 3 := by kernel_rfl
theorem impl_ysize_l3.ls : loopsOf (bodyAt 3 f32) = [] := by kernel_rfl
theorem impl_ysize_l3.lok {E : Env} (hpin : impl_ysize.E3.pin = E.pin) (hfind : find 3 E.loops = some impl_ysize_l3.ent) : LoopOK Pr E (bodyAt 3 f32) :=
 loop_of (E1 := impl_ysize.E3) (EnvOK.of dok impl_ysize.fok) mixed hpin (by rw [impl_ysize_l3.fr]; exact hfind) impl_ysize_l3.ls (by intro l hl; simp at hl) (fun v => (impl_ysize_l3.it K0 v).symm)
theorem impl_ysize.ls : loopsOf (bodyOf f32) = [bodyAt 3 f32] := by kernel_rfl
theorem impl_ysize.ok : EntryOK Pr 32 impl_ysize.ent :=
 entry_ok (E := impl_ysize.E) (EnvOK.of dok impl_ysize.fok) mixed (fn := f32) (by kernel_rfl) (by kernel_rfl) (by decide) impl_ysize.ls (by intro l hl; simp only [List.mem_singleton] at hl; subst hl; exact impl_ysize_l3.lok rfl rfl) impl_ysize.eq
/-! ### loop.example/g00038/impl.ygather -/
noncomputable def impl_ygather.E3 : Env := ⟨D, [], [], []⟩
noncomputable def impl_ygather_l3_step (rec : ByteArray → List V1 → Int → Int → List Int → Option ((List Int × Unit))) (y0 : ByteArray) (y1 : List V1) (y2 : Int) (y3 : Int) (y4 : List Int) : Option ((List Int × Unit)) :=
 bif decide (y3 < y2) then
  let e13 : V1 := rd R1 y1 y3
  bif decide (0 ≤ y3) && decide (y3 < (y1.length : Int)) then
   let x14 : Int := (wrap64 (e13.1 + e13.2.1))
   let s15 : ByteArray := y0.extract e13.1.toNat x14.toNat
   let s16 : ByteArray := (bif !e13.2.2 then y0 else y0)
   let l17 : List V1 := (bif !e13.2.2 then y1 else y1)
   let x18 : Int := (bif !e13.2.2 then y2 else y2)
   let x19 : Int := (bif !e13.2.2 then y3 else y3)
   let l25 : List Int := (bif !e13.2.2 then (y4 ++ (s2b s15)) else y4)
   bif (!(!e13.2.2) || (decide (0 ≤ x14) && decide (x14 ≤ (y0.size : Int)))) && ((!(!e13.2.2) || (decide (0 ≤ e13.1) && decide (e13.1 ≤ x14))) && (!(!e13.2.2) || (roomy ((y4.length : Int) + ((s2b s15).length : Int)) 1))) then
    rec s16 l17 x18 (wrap64 (x19 + 1)) l25
   else none
  else none
 else
  some (y4, ())
noncomputable def impl_ygather_l3 : Nat → ByteArray → List V1 → Int → Int → List Int → Option ((List Int × Unit))
 | 0 => fun _ _ _ _ _ => none
 | n + 1 => impl_ygather_l3_step (impl_ygather_l3 n)
noncomputable def impl_ygather_l3.ent : LEntry := ⟨(.cell (.val .bor (.str)) :: (sk 4 (.cell (.fix (.view 5 0)) :: (sk 2 (.cell (.val .bor (.slice R1)) :: (.cell (.val .bor (.int .i64)) :: (.cell (.val .bor (.int .i64)) :: (sk 20 [])))))))), rk 5 ([.val .own (.slice (.int .u8))] :: (rk 25 [])), [(5, true, .int .u8)], [], [⟨some 0, sk 5 (.cell (.fix (.view 5 0)) :: (sk 25 [])), rk 5 ([.val .own (.slice (.int .u8))] :: (rk 25 [])), [], []⟩], fun v => impl_ygather_l3 K0 v.1 v.2.1 v.2.2.1 v.2.2.2.1 v.2.2.2.2.1⟩
theorem impl_ygather_l3.eq : ∀ rec v, evStep impl_ygather.E3 (bodyAt 3 f33) impl_ygather_l3.ent.ins impl_ygather_l3.ent.rts impl_ygather_l3.ent.hm impl_ygather_l3.ent.nl impl_ygather_l3.ent.xs rec v = impl_ygather_l3_step (fun c0 c1 c2 c3 c4 => rec (c0, c1, c2, c3, c4, ())) v.1 v.2.1 v.2.2.1 v.2.2.2.1 v.2.2.2.2.1 := by intro rec v; kernel_rfl
noncomputable def impl_ygather.E : Env := ⟨D, [], [], [(3, impl_ygather_l3.ent)]⟩
noncomputable def impl_ygather (a0 : ByteArray) (a1 : List V1) : Option (ByteArray × Unit) :=
 (impl_ygather_l3 K0 a0 a1 (a1.length : Int) 0 []).bind fun o26 =>
 some (b2s o26.1, ())
noncomputable def impl_ygather.ent : Entry := ⟨[false, false], [.cell (.val .bor (.str)), .cell (.val .bor (.slice R1))], [.cell (.val .bor (.str))], [], fun v => impl_ygather v.1 v.2.1⟩
theorem impl_ygather.eq : ∀ v, evFn impl_ygather.E f33 impl_ygather.ent.ptrs impl_ygather.ent.ins impl_ygather.ent.rets impl_ygather.ent.outs v = impl_ygather.ent.f v := by intro v; kernel_rfl
theorem impl_ygather.fok : ∀ q ∈ ([] : List (Nat × Entry)), EntryOK Pr q.1 q.2 := by intro q hq; simp at hq
theorem impl_ygather_l3.it : ∀ n v, iter (evStep impl_ygather.E3 (bodyAt 3 f33) impl_ygather_l3.ent.ins impl_ygather_l3.ent.rts impl_ygather_l3.ent.hm impl_ygather_l3.ent.nl impl_ygather_l3.ent.xs) n v = impl_ygather_l3 n v.1 v.2.1 v.2.2.1 v.2.2.2.1 v.2.2.2.2.1 := by
 intro n
 induction n with
 | zero => intro v; rfl
 | succ n ih =>
  intro v
  show (evStep impl_ygather.E3 (bodyAt 3 f33) impl_ygather_l3.ent.ins impl_ygather_l3.ent.rts impl_ygather_l3.ent.hm impl_ygather_l3.ent.nl impl_ygather_l3.ent.xs) (iter (evStep impl_ygather.E3 (bodyAt 3 f33) impl_ygather_l3.ent.ins impl_ygather_l3.ent.rts impl_ygather_l3.ent.hm impl_ygather_l3.ent.nl impl_ygather_l3.ent.xs) n) v = _
  rw [impl_ygather_l3.eq, show (fun c0 c1 c2 c3 c4 => iter (evStep impl_ygather.E3 (bodyAt 3 f33) impl_ygather_l3.ent.ins impl_ygather_l3.ent.rts impl_ygather_l3.ent.hm impl_ygather_l3.ent.nl impl_ygather_l3.ent.xs) n (c0, c1, c2, c3, c4, ())) = impl_ygather_l3 n from by funext c0 c1 c2 c3 c4; exact ih _]
  rfl
theorem impl_ygather_l3.fr : firstRegion (bodyAt 3 f33) = 3 := by kernel_rfl
theorem impl_ygather_l3.ls : loopsOf (bodyAt 3 f33) = [] := by kernel_rfl
theorem impl_ygather_l3.lok {E : Env} (hpin : impl_ygather.E3.pin = E.pin) (hfind : find 3 E.loops = some impl_ygather_l3.ent) : LoopOK Pr E (bodyAt 3 f33) :=
 loop_of (E1 := impl_ygather.E3) (EnvOK.of dok impl_ygather.fok) mixed hpin (by rw [impl_ygather_l3.fr]; exact hfind) impl_ygather_l3.ls (by intro l hl; simp at hl) (fun v => (impl_ygather_l3.it K0 v).symm)
theorem impl_ygather.ls : loopsOf (bodyOf f33) = [bodyAt 3 f33] := by kernel_rfl
theorem impl_ygather.ok : EntryOK Pr 33 impl_ygather.ent :=
 entry_ok (E := impl_ygather.E) (EnvOK.of dok impl_ygather.fok) mixed (fn := f33) (by kernel_rfl) (by kernel_rfl) (by decide) impl_ygather.ls (by intro l hl; simp only [List.mem_singleton] at hl; subst hl; exact impl_ygather_l3.lok rfl rfl) impl_ygather.eq
/-! ### loop.example/g00038/impl.PutWord -/
noncomputable def impl_PutWord.E : Env := ⟨D, [], [], []⟩
noncomputable def impl_PutWord (a0 : Int) : Option (ByteArray × Unit) :=
 let x1 : Int := (IntKind.u8.wrap ((IntKind.u32.wrap (a0))))
 let x2 : Int := shr .u32 (IntKind.u32.wrap (a0)) 8
 let x3 : Int := shr .u32 (IntKind.u32.wrap (a0)) 16
 let x4 : Int := shr .u32 (IntKind.u32.wrap (a0)) 24
 let l5 : List Int := [x1, (IntKind.u8.wrap (x2)), (IntKind.u8.wrap (x3)), (IntKind.u8.wrap (x4))]
 bif (decide (0 ≤ (8 : Int))) && ((decide (0 ≤ (16 : Int))) && (decide (0 ≤ (24 : Int)))) then
  some (b2s l5, ())
 else none
noncomputable def impl_PutWord.ent : Entry := ⟨[false], [.cell (.val .bor (.int .i64))], [.cell (.val .bor (.str))], [], fun v => impl_PutWord v.1⟩
theorem impl_PutWord.eq : ∀ v, evFn impl_PutWord.E f90 impl_PutWord.ent.ptrs impl_PutWord.ent.ins impl_PutWord.ent.rets impl_PutWord.ent.outs v = impl_PutWord.ent.f v := by intro v; kernel_rfl
theorem impl_PutWord.fok : ∀ q ∈ ([] : List (Nat × Entry)), EntryOK Pr q.1 q.2 := by intro q hq; simp at hq
theorem impl_PutWord.ls : loopsOf (bodyOf f90) = [] := by kernel_rfl
theorem impl_PutWord.ok : EntryOK Pr 90 impl_PutWord.ent :=
 entry_ok (E := impl_PutWord.E) (EnvOK.of dok impl_PutWord.fok) mixed (fn := f90) (by kernel_rfl) (by kernel_rfl) (by decide) impl_PutWord.ls (by intro l hl; simp at hl) impl_PutWord.eq
/-! ### loop.example/g00038/impl.ysplice -/
noncomputable def impl_ysplice.E : Env := ⟨D, [], [], []⟩
noncomputable def impl_ysplice (a0 : ByteArray) (a1 : Int) (a2 : ByteArray) : Option (ByteArray × Unit) :=
 let s1 : ByteArray := ((a0.extract 0 a1.toNat) ++ a2)
 let x2 : Int := (wrap64 (a1 + (a2.size : Int)))
 let s3 : ByteArray := a0.extract x2.toNat a0.size
 bif (decide (0 ≤ a1) && decide (a1 ≤ (a0.size : Int))) && ((joins (a0.extract 0 a1.toNat) a2) && ((decide (0 ≤ x2) && decide (x2 ≤ (a0.size : Int))) && (joins s1 s3))) then
  some ((s1 ++ s3), ())
 else none
noncomputable def impl_ysplice.ent : Entry := ⟨[false, false, false], [.cell (.val .bor (.str)), .cell (.val .bor (.int .i64)), .cell (.val .bor (.str))], [.cell (.val .bor (.str))], [], fun v => impl_ysplice v.1 v.2.1 v.2.2.1⟩
theorem impl_ysplice.eq : ∀ v, evFn impl_ysplice.E f89 impl_ysplice.ent.ptrs impl_ysplice.ent.ins impl_ysplice.ent.rets impl_ysplice.ent.outs v = impl_ysplice.ent.f v := by intro v; kernel_rfl
theorem impl_ysplice.fok : ∀ q ∈ ([] : List (Nat × Entry)), EntryOK Pr q.1 q.2 := by intro q hq; simp at hq
theorem impl_ysplice.ls : loopsOf (bodyOf f89) = [] := by kernel_rfl
theorem impl_ysplice.ok : EntryOK Pr 89 impl_ysplice.ent :=
 entry_ok (E := impl_ysplice.E) (EnvOK.of dok impl_ysplice.fok) mixed (fn := f89) (by kernel_rfl) (by kernel_rfl) (by decide) impl_ysplice.ls (by intro l hl; simp at hl) impl_ysplice.eq
/-! ### loop.example/g00038/impl.yset -/
noncomputable def impl_yset.E2 : Env := ⟨D, [], [(90, impl_PutWord.ent), (89, impl_ysplice.ent)], []⟩
noncomputable def impl_yset_l2_step (rec : ByteArray → Int → List Int → Int → Int → Option ((ByteArray × Unit))) (y0 : ByteArray) (y1 : Int) (y2 : List Int) (y3 : Int) (y4 : Int) : Option ((ByteArray × Unit)) :=
 bif decide (y4 < y3) then
  bif decide (0 ≤ y4) && decide (y4 < (y2.length : Int)) then
   let x1 : Int := (wrap64 ((4 : Int) * y4))
   (impl_PutWord (rd (.int .i64) y2 y4)).bind fun r2 =>
   (impl_ysplice y0 (wrap64 (y1 + x1)) r2.1).bind fun r3 =>
   rec r3.1 y1 y2 y3 (wrap64 (y4 + 1))
  else none
 else
  some (y0, ())
noncomputable def impl_yset_l2 : Nat → ByteArray → Int → List Int → Int → Int → Option ((ByteArray × Unit))
 | 0 => fun _ _ _ _ _ => none
 | n + 1 => impl_yset_l2_step (impl_yset_l2 n)
noncomputable def impl_yset_l2.ent : LEntry := ⟨(.cell (.val .bor (.str)) :: (.cell (.val .bor (.int .i64)) :: (sk 7 (.cell (.val .bor (.slice (.int .i64))) :: (.cell (.val .bor (.int .i64)) :: (.cell (.val .bor (.int .i64)) :: (sk 14 []))))))), rk 26 [], [], [], [⟨some 0, (.cell (.val .bor (.str)) :: (sk 25 [])), rk 26 [], [], []⟩], fun v => impl_yset_l2 K0 v.1 v.2.1 v.2.2.1 v.2.2.2.1 v.2.2.2.2.1⟩
theorem impl_yset_l2.eq : ∀ rec v, evStep impl_yset.E2 (bodyAt 2 f72) impl_yset_l2.ent.ins impl_yset_l2.ent.rts impl_yset_l2.ent.hm impl_yset_l2.ent.nl impl_yset_l2.ent.xs rec v = impl_yset_l2_step (fun c0 c1 c2 c3 c4 => rec (c0, c1, c2, c3, c4, ())) v.1 v.2.1 v.2.2.1 v.2.2.2.1 v.2.2.2.2.1 := by intro rec v; kernel_rfl
noncomputable def impl_yset.E : Env := ⟨D, [], [(90, impl_PutWord.ent), (89, impl_ysplice.ent)], [(2, impl_yset_l2.ent)]⟩
noncomputable def impl_yset (a0 : ByteArray) (a1 : Int) (a2 : List Int) : Option (ByteArray × Unit) :=
 (impl_yset_l2 K0 a0 a1 a2 (a2.length : Int) 0).bind fun o4 =>
 some (o4.1, ())
noncomputable def impl_yset.ent : Entry := ⟨[false, false, false], [.cell (.val .bor (.str)), .cell (.val .bor (.int .i64)), .cell (.val .bor (.slice (.int .i64)))], [.cell (.val .bor (.str))], [], fun v => impl_yset v.1 v.2.1 v.2.2.1⟩
theorem impl_yset.eq : ∀ v, evFn impl_yset.E f72 impl_yset.ent.ptrs impl_yset.ent.ins impl_yset.ent.rets impl_yset.ent.outs v = impl_yset.ent.f v := by intro v; kernel_rfl
theorem impl_yset.fok : ∀ q ∈ [((90 : Nat), impl_PutWord.ent), ((89 : Nat), impl_ysplice.ent)], EntryOK Pr q.1 q.2 := by
 intro q hq
 simp only [List.mem_cons, List.mem_nil_iff, or_false] at hq
 rcases hq with rfl | rfl
 · exact impl_PutWord.ok
 · exact impl_ysplice.ok
theorem impl_yset_l2.it : ∀ n v, iter (evStep impl_yset.E2 (bodyAt 2 f72) impl_yset_l2.ent.ins impl_yset_l2.ent.rts impl_yset_l2.ent.hm impl_yset_l2.ent.nl impl_yset_l2.ent.xs) n v = impl_yset_l2 n v.1 v.2.1 v.2.2.1 v.2.2.2.1 v.2.2.2.2.1 := by
 intro n
 induction n with
 | zero => intro v; rfl
 | succ n ih =>
  intro v
  show (evStep impl_yset.E2 (bodyAt 2 f72) impl_yset_l2.ent.ins impl_yset_l2.ent.rts impl_yset_l2.ent.hm impl_yset_l2.ent.nl impl_yset_l2.ent.xs) (iter (evStep impl_yset.E2 (bodyAt 2 f72) impl_yset_l2.ent.ins impl_yset_l2.ent.rts impl_yset_l2.ent.hm impl_yset_l2.ent.nl impl_yset_l2.ent.xs) n) v = _
  rw [impl_yset_l2.eq, show (fun c0 c1 c2 c3 c4 => iter (evStep impl_yset.E2 (bodyAt 2 f72) impl_yset_l2.ent.ins impl_yset_l2.ent.rts impl_yset_l2.ent.hm impl_yset_l2.ent.nl impl_yset_l2.ent.xs) n (c0, c1, c2, c3, c4, ())) = impl_yset_l2 n from by funext c0 c1 c2 c3 c4; exact ih _]
  rfl
theorem impl_yset_l2.fr : firstRegion (bodyAt 2 f72) = 2 := by kernel_rfl
theorem impl_yset_l2.ls : loopsOf (bodyAt 2 f72) = [] := by kernel_rfl
theorem impl_yset_l2.lok {E : Env} (hpin : impl_yset.E2.pin = E.pin) (hfind : find 2 E.loops = some impl_yset_l2.ent) : LoopOK Pr E (bodyAt 2 f72) :=
 loop_of (E1 := impl_yset.E2) (EnvOK.of dok impl_yset.fok) mixed hpin (by rw [impl_yset_l2.fr]; exact hfind) impl_yset_l2.ls (by intro l hl; simp at hl) (fun v => (impl_yset_l2.it K0 v).symm)
theorem impl_yset.ls : loopsOf (bodyOf f72) = [bodyAt 2 f72] := by kernel_rfl
theorem impl_yset.ok : EntryOK Pr 72 impl_yset.ent :=
 entry_ok (E := impl_yset.E) (EnvOK.of dok impl_yset.fok) mixed (fn := f72) (by kernel_rfl) (by kernel_rfl) (by decide) impl_yset.ls (by intro l hl; simp only [List.mem_singleton] at hl; subst hl; exact impl_yset_l2.lok rfl rfl) impl_yset.eq
/-! ### loop.example/g00038/impl.ygivePacked -/
noncomputable def impl_ygivePacked.E : Env := ⟨D, [], [(72, impl_yset.ent)], []⟩
noncomputable def impl_ygivePacked (a0 : ByteArray) (a1 : Int) (a2 : Int) (a3 : Int) (a4 : Bool) (a5 : Int) (a6 : Int) (a7 : Int) : Option (ByteArray × Int × Int × Int × Bool × Unit) :=
 let x2 : Int := (bif a4 then 32896 else 0)
 let x3 : Int := (wrap64 ((16 : Int) * (bif a4 then a3 else a3)))
 let x4 : Int := (wrap64 ((bif a4 then a2 else a2) + x3))
 let l5 : List Int := [0, (bif a4 then a6 else a6), x2, (bif a4 then a5 else a5)]
 (impl_yset (bif a4 then a0 else a0) x4 l5).bind fun r6 =>
 let x7 : Int := (wrap64 ((bif a4 then a3 else a3) + (bif a4 then a7 else a7)))
 let b8 : Bool := decide (x7 ≥ (bif a4 then a1 else a1))
 let x9 : Int := (wrap64 (x7 - (bif a4 then a1 else a1)))
 let b10 : Bool := !(bif a4 then a4 else a4)
 let s11 : ByteArray := (bif b8 then r6.1 else r6.1)
 let x12 : Int := (bif b8 then (bif a4 then a1 else a1) else (bif a4 then a1 else a1))
 let x13 : Int := (bif b8 then (bif a4 then a2 else a2) else (bif a4 then a2 else a2))
 let b20 : Bool := (bif b8 then b10 else (bif a4 then a4 else a4))
 some (s11, x12, x13, (bif b8 then x9 else x7), b20, ())
noncomputable def impl_ygivePacked.ent : Entry := ⟨[false, false, false, false, false], [.cell (.val .bor (.str)), .agg [.val .bor (.int .i64), .val .bor (.int .i64), .val .bor (.int .i64), .val .bor (.bool)], .cell (.val .bor (.int .i64)), .cell (.val .bor (.int .i64)), .cell (.val .bor (.int .i64))], [.cell (.val .bor (.str)), .agg [.val .bor (.int .i64), .val .bor (.int .i64), .val .bor (.int .i64), .val .bor (.bool)]], [], fun v => impl_ygivePacked v.1 v.2.1 v.2.2.1 v.2.2.2.1 v.2.2.2.2.1 v.2.2.2.2.2.1 v.2.2.2.2.2.2.1 v.2.2.2.2.2.2.2.1⟩
theorem impl_ygivePacked.eq : ∀ v, evFn impl_ygivePacked.E f34 impl_ygivePacked.ent.ptrs impl_ygivePacked.ent.ins impl_ygivePacked.ent.rets impl_ygivePacked.ent.outs v = impl_ygivePacked.ent.f v := by intro v; kernel_rfl
theorem impl_ygivePacked.fok : ∀ q ∈ [((72 : Nat), impl_yset.ent)], EntryOK Pr q.1 q.2 := by
 intro q hq
 simp only [List.mem_cons, List.mem_nil_iff, or_false] at hq
 rcases hq with rfl
 · exact impl_yset.ok
theorem impl_ygivePacked.ls : loopsOf (bodyOf f34) = [] := by kernel_rfl
theorem impl_ygivePacked.ok : EntryOK Pr 34 impl_ygivePacked.ent :=
 entry_ok (E := impl_ygivePacked.E) (EnvOK.of dok impl_ygivePacked.fok) mixed (fn := f34) (by kernel_rfl) (by kernel_rfl) (by decide) impl_ygivePacked.ls (by intro l hl; simp at hl) impl_ygivePacked.eq
/-! ### loop.example/g00038/impl.SendFrames -/
noncomputable def impl_SendFrames.E5 : Env := ⟨D, [], [(30, impl_ymemPacked.ent), (31, impl_ytakePacked.ent), (32, impl_ysize.ent), (33, impl_ygather.ent), (34, impl_ygivePacked.ent)], []⟩
noncomputable def impl_SendFrames_l5_step (rec : Int → ByteArray → Int → Int → Int → Bool → Int → ByteArray → Int → Int → Int → Bool → List ByteArray → Option ((Int × ByteArray × Int × Int × Int × Bool × List ByteArray × Unit))) (y0 : Int) (y1 : ByteArray) (y2 : Int) (y3 : Int) (y4 : Int) (y5 : Bool) (y6 : Int) (y7 : ByteArray) (y8 : Int) (y9 : Int) (y10 : Int) (y11 : Bool) (y12 : List ByteArray) : Option ((Int × ByteArray × Int × Int × Int × Bool × List ByteArray × Unit)) :=
 (impl_ytakePacked y7 y8 y9 y10 y11).bind fun r7 =>
 bif (r7.1 == 5) then
  some (y6, y7, y8, y9, y10, y11, y12, ())
 else
  let r8 : Int × Unit := (impl_ysize r7.2.2.2.1 false).getD (0, ())
  let b9 : Bool := ((r7.1 != 0) || decide (r8.1 > 1500))
  bif (!(!(r7.1 != 0)) || ((impl_ysize r7.2.2.2.1 false).isSome)) then
   bif b9 then
    some (6, y7, y8, y9, y10, y11, y12, ())
   else
    (impl_ygather y7 r7.2.2.2.1).bind fun r10 =>
    bif roomy ((y12.length : Int) + ([r10.1].length : Int)) 16 then
     (impl_ygivePacked y7 y8 y9 y10 y11 r7.2.1 0 r7.2.2.1).bind fun r11 =>
     rec y0 y1 y2 y3 y4 y5 y6 r11.1 r11.2.1 r11.2.2.1 r11.2.2.2.1 r11.2.2.2.2.1 (y12 ++ [r10.1])
    else none
  else none
noncomputable def impl_SendFrames_l5 : Nat → Int → ByteArray → Int → Int → Int → Bool → Int → ByteArray → Int → Int → Int → Bool → List ByteArray → Option ((Int × ByteArray × Int × Int × Int × Bool × List ByteArray × Unit))
 | 0 => fun _ _ _ _ _ _ _ _ _ _ _ _ _ => none
 | n + 1 => impl_SendFrames_l5_step (impl_SendFrames_l5 n)
noncomputable def impl_SendFrames_l5.ent : LEntry := ⟨sk 4 (.cell (.fix (.ptr 4 0)) :: (sk 1 (.cell (.fix (.ptr 6 0)) :: (sk 55 [])))), rk 4 ([.val .bor (.int .i64), .val .bor (.str), .val .bor (.int .i64), .val .bor (.int .i64), .val .bor (.int .i64), .val .bor (.bool), .fix (.nil)] :: (rk 1 ([.val .bor (.int .i64), .val .bor (.str), .val .bor (.int .i64), .val .bor (.int .i64), .val .bor (.int .i64), .val .bor (.bool), .val .own (.slice (.str))] :: (rk 55 [])))), [], [(6, 6, true, .str)], [⟨none, sk 4 (.cell (.fix (.ptr 4 0)) :: (sk 57 [])), rk 4 ([.val .bor (.int .i64), .val .bor (.str), .val .bor (.int .i64), .val .bor (.int .i64), .val .bor (.int .i64), .val .bor (.bool), .val .own (.slice (.str))] :: (rk 57 [])), [], []⟩], fun v => impl_SendFrames_l5 K0 v.1 v.2.1 v.2.2.1 v.2.2.2.1 v.2.2.2.2.1 v.2.2.2.2.2.1 v.2.2.2.2.2.2.1 v.2.2.2.2.2.2.2.1 v.2.2.2.2.2.2.2.2.1 v.2.2.2.2.2.2.2.2.2.1 v.2.2.2.2.2.2.2.2.2.2.1 v.2.2.2.2.2.2.2.2.2.2.2.1 v.2.2.2.2.2.2.2.2.2.2.2.2.1⟩
theorem impl_SendFrames_l5.eq : ∀ rec v, evStep impl_SendFrames.E5 (bodyAt 5 f9) impl_SendFrames_l5.ent.ins impl_SendFrames_l5.ent.rts impl_SendFrames_l5.ent.hm impl_SendFrames_l5.ent.nl impl_SendFrames_l5.ent.xs rec v = impl_SendFrames_l5_step (fun c0 c1 c2 c3 c4 c5 c6 c7 c8 c9 c10 c11 c12 => rec (c0, c1, c2, c3, c4, c5, c6, c7, c8, c9, c10, c11, c12, ())) v.1 v.2.1 v.2.2.1 v.2.2.2.1 v.2.2.2.2.1 v.2.2.2.2.2.1 v.2.2.2.2.2.2.1 v.2.2.2.2.2.2.2.1 v.2.2.2.2.2.2.2.2.1 v.2.2.2.2.2.2.2.2.2.1 v.2.2.2.2.2.2.2.2.2.2.1 v.2.2.2.2.2.2.2.2.2.2.2.1 v.2.2.2.2.2.2.2.2.2.2.2.2.1 := by intro rec v; kernel_rfl
noncomputable def impl_SendFrames.E : Env := ⟨D, [], [(30, impl_ymemPacked.ent), (31, impl_ytakePacked.ent), (32, impl_ysize.ent), (33, impl_ygather.ent), (34, impl_ygivePacked.ent)], [(5, impl_SendFrames_l5.ent)]⟩
noncomputable def impl_SendFrames (a0 : ByteArray) (a1 : Int) (a2 : Int) (a3 : Int) (a4 : Bool) : Option (Int × ByteArray × Int × Int × Int × Bool × List ByteArray × Unit) :=
 (impl_ymemPacked a0 a1 a2 a3 a4).bind fun r1 =>
 bif (r1.1 != 0) then
  some (r1.1, ByteArray.empty, 0, 0, 0, false, [], ())
 else
  (impl_SendFrames_l5 K0 0 ByteArray.empty 0 0 0 false 0 a0 a1 a2 a3 a4 []).bind fun o12 =>
  some (o12.1, o12.2.1, o12.2.2.1, o12.2.2.2.1, o12.2.2.2.2.1, o12.2.2.2.2.2.1, o12.2.2.2.2.2.2.1, ())
noncomputable def impl_SendFrames.ent : Entry := ⟨[false, false], [.cell (.val .bor (.str)), .agg [.val .bor (.int .i64), .val .bor (.int .i64), .val .bor (.int .i64), .val .bor (.bool)]], [.agg [.val .bor (.int .i64), .val .bor (.str), .val .bor (.int .i64), .val .bor (.int .i64), .val .bor (.int .i64), .val .bor (.bool), .val .own (.slice (.str))]], [], fun v => impl_SendFrames v.1 v.2.1 v.2.2.1 v.2.2.2.1 v.2.2.2.2.1⟩
theorem impl_SendFrames.eq : ∀ v, evFn impl_SendFrames.E f9 impl_SendFrames.ent.ptrs impl_SendFrames.ent.ins impl_SendFrames.ent.rets impl_SendFrames.ent.outs v = impl_SendFrames.ent.f v := by intro v; kernel_rfl
theorem impl_SendFrames.fok : ∀ q ∈ [((30 : Nat), impl_ymemPacked.ent), ((31 : Nat), impl_ytakePacked.ent), ((32 : Nat), impl_ysize.ent), ((33 : Nat), impl_ygather.ent), ((34 : Nat), impl_ygivePacked.ent)], EntryOK Pr q.1 q.2 := by
 intro q hq
 simp only [List.mem_cons, List.mem_nil_iff, or_false] at hq
 rcases hq with rfl | rfl | rfl | rfl | rfl
 · exact impl_ymemPacked.ok
 · exact impl_ytakePacked.ok
 · exact impl_ysize.ok
 · exact impl_ygather.ok
 · exact impl_ygivePacked.ok
theorem impl_SendFrames_l5.it : ∀ n v, iter (evStep impl_SendFrames.E5 (bodyAt 5 f9) impl_SendFrames_l5.ent.ins impl_SendFrames_l5.ent.rts impl_SendFrames_l5.ent.hm impl_SendFrames_l5.ent.nl impl_SendFrames_l5.ent.xs) n v = impl_SendFrames_l5 n v.1 v.2.1 v.2.2.1 v.2.2.2.1 v.2.2.2.2.1 v.2.2.2.2.2.1 v.2.2.2.2.2.2.1 v.2.2.2.2.2.2.2.1 v.2.2.2.2.2.2.2.2.1 v.2.2.2.2.2.2.2.2.2.1 v.2.2.2.2.2.2.2.2.2.2.1 v.2.2.2.2.2.2.2.2.2.2.2.1 v.2.2.2.2.2.2.2.2.2.2.2.2.1 := by
 intro n
 induction n with
 | zero => intro v; rfl
 | succ n ih =>
  intro v
  show (evStep impl_SendFrames.E5 (bodyAt 5 f9) impl_SendFrames_l5.ent.ins impl_SendFrames_l5.ent.rts impl_SendFrames_l5.ent.hm impl_SendFrames_l5.ent.nl impl_SendFrames_l5.ent.xs) (iter (evStep impl_SendFrames.E5 (bodyAt 5 f9) impl_SendFrames_l5.ent.ins impl_SendFrames_l5.ent.rts impl_SendFrames_l5.ent.hm impl_SendFrames_l5.ent.nl impl_SendFrames_l5.ent.xs) n) v = _
  rw [impl_SendFrames_l5.eq, show (fun c0 c1 c2 c3 c4 c5 c6 c7 c8 c9 c10 c11 c12 => iter (evStep impl_SendFrames.E5 (bodyAt 5 f9) impl_SendFrames_l5.ent.ins impl_SendFrames_l5.ent.rts impl_SendFrames_l5.ent.hm impl_SendFrames_l5.ent.nl impl_SendFrames_l5.ent.xs) n (c0, c1, c2, c3, c4, c5, c6, c7, c8, c9, c10, c11, c12, ())) = impl_SendFrames_l5 n from by funext c0 c1 c2 c3 c4 c5 c6 c7 c8 c9 c10 c11 c12; exact ih _]
  rfl
theorem impl_SendFrames_l5.fr : firstRegion (bodyAt 5 f9) = 5 := by kernel_rfl
theorem impl_SendFrames_l5.ls : loopsOf (bodyAt 5 f9) = [] := by kernel_rfl
theorem impl_SendFrames_l5.lok {E : Env} (hpin : impl_SendFrames.E5.pin = E.pin) (hfind : find 5 E.loops = some impl_SendFrames_l5.ent) : LoopOK Pr E (bodyAt 5 f9) :=
 loop_of (E1 := impl_SendFrames.E5) (EnvOK.of dok impl_SendFrames.fok) mixed hpin (by rw [impl_SendFrames_l5.fr]; exact hfind) impl_SendFrames_l5.ls (by intro l hl; simp at hl) (fun v => (impl_SendFrames_l5.it K0 v).symm)
theorem impl_SendFrames.ls : loopsOf (bodyOf f9) = [bodyAt 5 f9] := by kernel_rfl
theorem impl_SendFrames.ok : EntryOK Pr 9 impl_SendFrames.ent :=
 entry_ok (E := impl_SendFrames.E) (EnvOK.of dok impl_SendFrames.fok) mixed (fn := f9) (by kernel_rfl) (by kernel_rfl) (by decide) impl_SendFrames.ls (by intro l hl; simp only [List.mem_singleton] at hl; subst hl; exact impl_SendFrames_l5.lok rfl rfl) impl_SendFrames.eq
/-! ### loop.example/g00038/laws.eqPacked -/
noncomputable def laws_eqPacked.E : Env := ⟨D, [], [], []⟩
noncomputable def laws_eqPacked (a0 : Int) (a1 : Int) (a2 : Int) (a3 : Bool) (a4 : Int) (a5 : Int) (a6 : Int) (a7 : Bool) : Option (Bool × Unit) :=
 bif (a0 != a4) then
  some (false, ())
 else
 bif (a1 != a5) then
  some (false, ())
 else
 bif (a2 != a6) then
  some (false, ())
 else
 bif !(a3 == a7) then
  some (false, ())
 else
  some (true, ())
noncomputable def laws_eqPacked.ent : Entry := ⟨[false, false], [.agg [.val .bor (.int .i64), .val .bor (.int .i64), .val .bor (.int .i64), .val .bor (.bool)], .agg [.val .bor (.int .i64), .val .bor (.int .i64), .val .bor (.int .i64), .val .bor (.bool)]], [.cell (.val .bor (.bool))], [], fun v => laws_eqPacked v.1 v.2.1 v.2.2.1 v.2.2.2.1 v.2.2.2.2.1 v.2.2.2.2.2.1 v.2.2.2.2.2.2.1 v.2.2.2.2.2.2.2.1⟩
theorem laws_eqPacked.eq : ∀ v, evFn laws_eqPacked.E f35 laws_eqPacked.ent.ptrs laws_eqPacked.ent.ins laws_eqPacked.ent.rets laws_eqPacked.ent.outs v = laws_eqPacked.ent.f v := by intro v; kernel_rfl
theorem laws_eqPacked.fok : ∀ q ∈ ([] : List (Nat × Entry)), EntryOK Pr q.1 q.2 := by intro q hq; simp at hq
theorem laws_eqPacked.ls : loopsOf (bodyOf f35) = [] := by kernel_rfl
theorem laws_eqPacked.ok : EntryOK Pr 35 laws_eqPacked.ent :=
 entry_ok (E := laws_eqPacked.E) (EnvOK.of dok laws_eqPacked.fok) mixed (fn := f35) (by kernel_rfl) (by kernel_rfl) (by decide) laws_eqPacked.ls (by intro l hl; simp at hl) laws_eqPacked.eq
/-! ### loop.example/g00038/laws.eqStringS -/
noncomputable def laws_eqStringS.E4 : Env := ⟨D, [], [], []⟩
noncomputable def laws_eqStringS_l4_step (rec : List ByteArray → List ByteArray → Int → Option ((Bool × Unit) ⊕ (Unit))) (y0 : List ByteArray) (y1 : List ByteArray) (y2 : Int) : Option ((Bool × Unit) ⊕ (Unit)) :=
 let b2 : Bool := decide (y2 < (y0.length : Int))
 bif b2 then
  let b3 : Bool := !seq (rd (.str) y0 y2) (rd (.str) y1 y2)
  bif (decide (0 ≤ y2) && decide (y2 < (y0.length : Int))) && (decide (0 ≤ y2) && decide (y2 < (y1.length : Int))) then
   bif b3 then
    some (Sum.inl (false, ()))
   else
    rec y0 y1 (wrap64 (y2 + 1))
  else none
 else
  some (Sum.inr ())
noncomputable def laws_eqStringS_l4 : Nat → List ByteArray → List ByteArray → Int → Option ((Bool × Unit) ⊕ (Unit))
 | 0 => fun _ _ _ => none
 | n + 1 => laws_eqStringS_l4_step (laws_eqStringS_l4 n)
noncomputable def laws_eqStringS_l4.ent : LEntry := ⟨(.cell (.val .bor (.slice (.str))) :: (.cell (.val .bor (.slice (.str))) :: (sk 3 (.cell (.val .bor (.int .i64)) :: (sk 20 []))))), rk 26 [], [], [], [⟨none, sk 4 (.cell (.val .bor (.bool)) :: (sk 21 [])), rk 26 [], [], []⟩, ⟨some 0, sk 26 [], rk 26 [], [], []⟩], fun v => laws_eqStringS_l4 K0 v.1 v.2.1 v.2.2.1⟩
theorem laws_eqStringS_l4.eq : ∀ rec v, evStep laws_eqStringS.E4 (bodyAt 4 f36) laws_eqStringS_l4.ent.ins laws_eqStringS_l4.ent.rts laws_eqStringS_l4.ent.hm laws_eqStringS_l4.ent.nl laws_eqStringS_l4.ent.xs rec v = laws_eqStringS_l4_step (fun c0 c1 c2 => rec (c0, c1, c2, ())) v.1 v.2.1 v.2.2.1 := by intro rec v; kernel_rfl
noncomputable def laws_eqStringS.E : Env := ⟨D, [], [], [(4, laws_eqStringS_l4.ent)]⟩
noncomputable def laws_eqStringS (a0 : List ByteArray) (a1 : List ByteArray) : Option (Bool × Unit) :=
 let b1 : Bool := ((a0.length : Int) != (a1.length : Int))
 bif b1 then
  some (false, ())
 else
  (laws_eqStringS_l4 K0 a0 a1 0).bind fun o4 =>
  match o4 with
  | Sum.inl p5 =>
   some (p5.1, ())
  | Sum.inr p6 =>
   some (true, ())
noncomputable def laws_eqStringS.ent : Entry := ⟨[false, false], [.cell (.val .bor (.slice (.str))), .cell (.val .bor (.slice (.str)))], [.cell (.val .bor (.bool))], [], fun v => laws_eqStringS v.1 v.2.1⟩
theorem laws_eqStringS.eq : ∀ v, evFn laws_eqStringS.E f36 laws_eqStringS.ent.ptrs laws_eqStringS.ent.ins laws_eqStringS.ent.rets laws_eqStringS.ent.outs v = laws_eqStringS.ent.f v := by intro v; kernel_rfl
theorem laws_eqStringS.fok : ∀ q ∈ ([] : List (Nat × Entry)), EntryOK Pr q.1 q.2 := by intro q hq; simp at hq
theorem laws_eqStringS_l4.it : ∀ n v, iter (evStep laws_eqStringS.E4 (bodyAt 4 f36) laws_eqStringS_l4.ent.ins laws_eqStringS_l4.ent.rts laws_eqStringS_l4.ent.hm laws_eqStringS_l4.ent.nl laws_eqStringS_l4.ent.xs) n v = laws_eqStringS_l4 n v.1 v.2.1 v.2.2.1 := by
 intro n
 induction n with
 | zero => intro v; rfl
 | succ n ih =>
  intro v
  show (evStep laws_eqStringS.E4 (bodyAt 4 f36) laws_eqStringS_l4.ent.ins laws_eqStringS_l4.ent.rts laws_eqStringS_l4.ent.hm laws_eqStringS_l4.ent.nl laws_eqStringS_l4.ent.xs) (iter (evStep laws_eqStringS.E4 (bodyAt 4 f36) laws_eqStringS_l4.ent.ins laws_eqStringS_l4.ent.rts laws_eqStringS_l4.ent.hm laws_eqStringS_l4.ent.nl laws_eqStringS_l4.ent.xs) n) v = _
  rw [laws_eqStringS_l4.eq, show (fun c0 c1 c2 => iter (evStep laws_eqStringS.E4 (bodyAt 4 f36) laws_eqStringS_l4.ent.ins laws_eqStringS_l4.ent.rts laws_eqStringS_l4.ent.hm laws_eqStringS_l4.ent.nl laws_eqStringS_l4.ent.xs) n (c0, c1, c2, ())) = laws_eqStringS_l4 n from by funext c0 c1 c2; exact ih _]
  rfl
theorem laws_eqStringS_l4.fr : firstRegion (bodyAt 4 f36) = 4 := by kernel_rfl
theorem laws_eqStringS_l4.ls : loopsOf (bodyAt 4 f36) = [] := by kernel_rfl
theorem laws_eqStringS_l4.lok {E : Env} (hpin : laws_eqStringS.E4.pin = E.pin) (hfind : find 4 E.loops = some laws_eqStringS_l4.ent) : LoopOK Pr E (bodyAt 4 f36) :=
 loop_of (E1 := laws_eqStringS.E4) (EnvOK.of dok laws_eqStringS.fok) mixed hpin (by rw [laws_eqStringS_l4.fr]; exact hfind) laws_eqStringS_l4.ls (by intro l hl; simp at hl) (fun v => (laws_eqStringS_l4.it K0 v).symm)
theorem laws_eqStringS.ls : loopsOf (bodyOf f36) = [bodyAt 4 f36] := by kernel_rfl
theorem laws_eqStringS.ok : EntryOK Pr 36 laws_eqStringS.ent :=
 entry_ok (E := laws_eqStringS.E) (EnvOK.of dok laws_eqStringS.fok) mixed (fn := f36) (by kernel_rfl) (by kernel_rfl) (by decide) laws_eqStringS.ls (by intro l hl; simp only [List.mem_singleton] at hl; subst hl; exact laws_eqStringS_l4.lok rfl rfl) laws_eqStringS.eq
/-! ### loop.example/g00038/laws.eqSentFrames -/
noncomputable def laws_eqSentFrames.E : Env := ⟨D, [], [(35, laws_eqPacked.ent), (36, laws_eqStringS.ent)], []⟩
noncomputable def laws_eqSentFrames (a0 : Int) (a1 : ByteArray) (a2 : Int) (a3 : Int) (a4 : Int) (a5 : Bool) (a6 : List ByteArray) (a7 : Int) (a8 : ByteArray) (a9 : Int) (a10 : Int) (a11 : Int) (a12 : Bool) (a13 : List ByteArray) : Option (Bool × Unit) :=
 bif (a0 != a7) then
  some (false, ())
 else
 bif !seq a1 a8 then
  some (false, ())
 else
  (laws_eqPacked a2 a3 a4 a5 a9 a10 a11 a12).bind fun r1 =>
  bif !r1.1 then
   some (false, ())
  else
   (laws_eqStringS a6 a13).bind fun r2 =>
   bif !r2.1 then
    some (false, ())
   else
    some (true, ())
noncomputable def laws_eqSentFrames.ent : Entry := ⟨[false, false], [.agg [.val .bor (.int .i64), .val .bor (.str), .val .bor (.int .i64), .val .bor (.int .i64), .val .bor (.int .i64), .val .bor (.bool), .val .bor (.slice (.str))], .agg [.val .bor (.int .i64), .val .bor (.str), .val .bor (.int .i64), .val .bor (.int .i64), .val .bor (.int .i64), .val .bor (.bool), .val .bor (.slice (.str))]], [.cell (.val .bor (.bool))], [], fun v => laws_eqSentFrames v.1 v.2.1 v.2.2.1 v.2.2.2.1 v.2.2.2.2.1 v.2.2.2.2.2.1 v.2.2.2.2.2.2.1 v.2.2.2.2.2.2.2.1 v.2.2.2.2.2.2.2.2.1 v.2.2.2.2.2.2.2.2.2.1 v.2.2.2.2.2.2.2.2.2.2.1 v.2.2.2.2.2.2.2.2.2.2.2.1 v.2.2.2.2.2.2.2.2.2.2.2.2.1 v.2.2.2.2.2.2.2.2.2.2.2.2.2.1⟩
theorem laws_eqSentFrames.eq : ∀ v, evFn laws_eqSentFrames.E f10 laws_eqSentFrames.ent.ptrs laws_eqSentFrames.ent.ins laws_eqSentFrames.ent.rets laws_eqSentFrames.ent.outs v = laws_eqSentFrames.ent.f v := by intro v; kernel_rfl
theorem laws_eqSentFrames.fok : ∀ q ∈ [((35 : Nat), laws_eqPacked.ent), ((36 : Nat), laws_eqStringS.ent)], EntryOK Pr q.1 q.2 := by
 intro q hq
 simp only [List.mem_cons, List.mem_nil_iff, or_false] at hq
 rcases hq with rfl | rfl
 · exact laws_eqPacked.ok
 · exact laws_eqStringS.ok
theorem laws_eqSentFrames.ls : loopsOf (bodyOf f10) = [] := by kernel_rfl
theorem laws_eqSentFrames.ok : EntryOK Pr 10 laws_eqSentFrames.ent :=
 entry_ok (E := laws_eqSentFrames.E) (EnvOK.of dok laws_eqSentFrames.fok) mixed (fn := f10) (by kernel_rfl) (by kernel_rfl) (by decide) laws_eqSentFrames.ls (by intro l hl; simp at hl) laws_eqSentFrames.eq
/-! ### loop.example/g00038/laws.markText -/
noncomputable def laws_markText.E4 : Env := ⟨D, [], [], []⟩
noncomputable def laws_markText_l4_step (rec : Int → ByteArray → Option ((ByteArray × Unit))) (y0 : Int) (y1 : ByteArray) : Option ((ByteArray × Unit)) :=
 bif decide (y0 > 0) then
  let x1 : Int := (wrap64 ((48 : Int) + (Int.tmod y0 10)))
  let s2 : ByteArray := b2s [(IntKind.u8.wrap (x1))]
  bif (!((10 : Int) == 0)) && (joins s2 y1) then
   let x3 : Int := (wrap64 (Int.tdiv y0 10))
   bif !((10 : Int) == 0) then
    rec x3 (s2 ++ y1)
   else none
  else none
 else
  some (y1, ())
noncomputable def laws_markText_l4 : Nat → Int → ByteArray → Option ((ByteArray × Unit))
 | 0 => fun _ _ => none
 | n + 1 => laws_markText_l4_step (laws_markText_l4 n)
noncomputable def laws_markText_l4.ent : LEntry := ⟨(.cell (.val .bor (.int .i64)) :: (sk 2 (.cell (.val .bor (.str)) :: (sk 16 [])))), rk 20 [], [], [], [⟨some 0, sk 3 (.cell (.val .bor (.str)) :: (sk 16 [])), rk 20 [], [], []⟩], fun v => laws_markText_l4 K0 v.1 v.2.1⟩
theorem laws_markText_l4.eq : ∀ rec v, evStep laws_markText.E4 (bodyAt 4 f73) laws_markText_l4.ent.ins laws_markText_l4.ent.rts laws_markText_l4.ent.hm laws_markText_l4.ent.nl laws_markText_l4.ent.xs rec v = laws_markText_l4_step (fun c0 c1 => rec (c0, c1, ())) v.1 v.2.1 := by intro rec v; kernel_rfl
noncomputable def laws_markText.E : Env := ⟨D, [], [], [(4, laws_markText_l4.ent)]⟩
noncomputable def laws_markText (a0 : Int) : Option (ByteArray × Unit) :=
 bif decide (a0 ≤ 0) then
  some ((⟨#[109, 48]⟩ : ByteArray), ())
 else
  (laws_markText_l4 K0 a0 (⟨#[]⟩ : ByteArray)).bind fun o4 =>
  let s5 : ByteArray := ((⟨#[109]⟩ : ByteArray) ++ o4.1)
  bif joins (⟨#[109]⟩ : ByteArray) o4.1 then
   some (s5, ())
  else none
noncomputable def laws_markText.ent : Entry := ⟨[false], [.cell (.val .bor (.int .i64))], [.cell (.val .bor (.str))], [], fun v => laws_markText v.1⟩
theorem laws_markText.eq : ∀ v, evFn laws_markText.E f73 laws_markText.ent.ptrs laws_markText.ent.ins laws_markText.ent.rets laws_markText.ent.outs v = laws_markText.ent.f v := by intro v; kernel_rfl
theorem laws_markText.fok : ∀ q ∈ ([] : List (Nat × Entry)), EntryOK Pr q.1 q.2 := by intro q hq; simp at hq
theorem laws_markText_l4.it : ∀ n v, iter (evStep laws_markText.E4 (bodyAt 4 f73) laws_markText_l4.ent.ins laws_markText_l4.ent.rts laws_markText_l4.ent.hm laws_markText_l4.ent.nl laws_markText_l4.ent.xs) n v = laws_markText_l4 n v.1 v.2.1 := by
 intro n
 induction n with
 | zero => intro v; rfl
 | succ n ih =>
  intro v
  show (evStep laws_markText.E4 (bodyAt 4 f73) laws_markText_l4.ent.ins laws_markText_l4.ent.rts laws_markText_l4.ent.hm laws_markText_l4.ent.nl laws_markText_l4.ent.xs) (iter (evStep laws_markText.E4 (bodyAt 4 f73) laws_markText_l4.ent.ins laws_markText_l4.ent.rts laws_markText_l4.ent.hm laws_markText_l4.ent.nl laws_markText_l4.ent.xs) n) v = _
  rw [laws_markText_l4.eq, show (fun c0 c1 => iter (evStep laws_markText.E4 (bodyAt 4 f73) laws_markText_l4.ent.ins laws_markText_l4.ent.rts laws_markText_l4.ent.hm laws_markText_l4.ent.nl laws_markText_l4.ent.xs) n (c0, c1, ())) = laws_markText_l4 n from by funext c0 c1; exact ih _]
  rfl
theorem laws_markText_l4.fr : firstRegion (bodyAt 4 f73) = 4 := by kernel_rfl
theorem laws_markText_l4.ls : loopsOf (bodyAt 4 f73) = [] := by kernel_rfl
theorem laws_markText_l4.lok {E : Env} (hpin : laws_markText.E4.pin = E.pin) (hfind : find 4 E.loops = some laws_markText_l4.ent) : LoopOK Pr E (bodyAt 4 f73) :=
 loop_of (E1 := laws_markText.E4) (EnvOK.of dok laws_markText.fok) mixed hpin (by rw [laws_markText_l4.fr]; exact hfind) laws_markText_l4.ls (by intro l hl; simp at hl) (fun v => (laws_markText_l4.it K0 v).symm)
theorem laws_markText.ls : loopsOf (bodyOf f73) = [bodyAt 4 f73] := by kernel_rfl
theorem laws_markText.ok : EntryOK Pr 73 laws_markText.ent :=
 entry_ok (E := laws_markText.E) (EnvOK.of dok laws_markText.fok) mixed (fn := f73) (by kernel_rfl) (by kernel_rfl) (by decide) laws_markText.ls (by intro l hl; simp only [List.mem_singleton] at hl; subst hl; exact laws_markText_l4.lok rfl rfl) laws_markText.eq
/-! ### loop.example/g00038/laws.markStringS -/
noncomputable def laws_markStringS_v2.E2 : Env := ⟨D, [0], [(73, laws_markText.ent)], []⟩
noncomputable def laws_markStringS_v2_l2_step (rec : Int → Int → List ByteArray → Option ((Int × List ByteArray × Unit))) (y0 : Int) (y1 : Int) (y2 : List ByteArray) : Option ((Int × List ByteArray × Unit)) :=
 let b1 : Bool := decide (y1 < (y2.length : Int))
 bif b1 then
  (laws_markText y0).bind fun r2 =>
  bif decide (0 ≤ y1) && decide (y1 < (y2.length : Int)) then
   rec (wrap64 (y0 + 1)) (wrap64 (y1 + 1)) (y2.set y1.toNat r2.1)
  else none
 else
  some (y0, y2, ())
noncomputable def laws_markStringS_v2_l2 : Nat → Int → Int → List ByteArray → Option ((Int × List ByteArray × Unit))
 | 0 => fun _ _ _ => none
 | n + 1 => laws_markStringS_v2_l2_step (laws_markStringS_v2_l2 n)
noncomputable def laws_markStringS_v2_l2.ent : LEntry := ⟨(.cell (.fix (.view 0 0)) :: (.cell (.val .bor (.int .i64)) :: (sk 3 (.cell (.val .bor (.int .i64)) :: (sk 14 []))))), ([.val .lent (.slice (.str))] :: (rk 19 [])), [], [], [⟨some 0, (.cell (.fix (.view 0 0)) :: (.cell (.val .bor (.int .i64)) :: (sk 18 []))), ([.val .lent (.slice (.str))] :: (rk 19 [])), [], []⟩], fun v => laws_markStringS_v2_l2 K0 v.1 v.2.1 v.2.2.1⟩
theorem laws_markStringS_v2_l2.eq : ∀ rec v, evStep laws_markStringS_v2.E2 (bodyAt 2 f37) laws_markStringS_v2_l2.ent.ins laws_markStringS_v2_l2.ent.rts laws_markStringS_v2_l2.ent.hm laws_markStringS_v2_l2.ent.nl laws_markStringS_v2_l2.ent.xs rec v = laws_markStringS_v2_l2_step (fun c0 c1 c2 => rec (c0, c1, c2, ())) v.1 v.2.1 v.2.2.1 := by intro rec v; kernel_rfl
noncomputable def laws_markStringS_v2.E : Env := ⟨D, [0], [(73, laws_markText.ent)], [(2, laws_markStringS_v2_l2.ent)]⟩
noncomputable def laws_markStringS_v2 (a0 : List ByteArray) (a1 : Int) : Option (Int × List ByteArray × Unit) :=
 (laws_markStringS_v2_l2 K0 a1 0 a0).bind fun o3 =>
 some (o3.1, o3.2.1, ())
noncomputable def laws_markStringS_v2.ent : Entry := ⟨[false, false], [.cell (.val .lent (.slice (.str))), .cell (.val .bor (.int .i64))], [.cell (.val .bor (.int .i64))], [.cell (.val .lent (.slice (.str)))], fun v => laws_markStringS_v2 v.1 v.2.1⟩
theorem laws_markStringS_v2.eq : ∀ v, evFn laws_markStringS_v2.E f37 laws_markStringS_v2.ent.ptrs laws_markStringS_v2.ent.ins laws_markStringS_v2.ent.rets laws_markStringS_v2.ent.outs v = laws_markStringS_v2.ent.f v := by intro v; kernel_rfl
theorem laws_markStringS_v2.fok : ∀ q ∈ [((73 : Nat), laws_markText.ent)], EntryOK Pr q.1 q.2 := by
 intro q hq
 simp only [List.mem_cons, List.mem_nil_iff, or_false] at hq
 rcases hq with rfl
 · exact laws_markText.ok
theorem laws_markStringS_v2_l2.it : ∀ n v, iter (evStep laws_markStringS_v2.E2 (bodyAt 2 f37) laws_markStringS_v2_l2.ent.ins laws_markStringS_v2_l2.ent.rts laws_markStringS_v2_l2.ent.hm laws_markStringS_v2_l2.ent.nl laws_markStringS_v2_l2.ent.xs) n v = laws_markStringS_v2_l2 n v.1 v.2.1 v.2.2.1 := by
 intro n
 induction n with
 | zero => intro v; rfl
 | succ n ih =>
  intro v
  show (evStep laws_markStringS_v2.E2 (bodyAt 2 f37) laws_markStringS_v2_l2.ent.ins laws_markStringS_v2_l2.ent.rts laws_markStringS_v2_l2.ent.hm laws_markStringS_v2_l2.ent.nl laws_markStringS_v2_l2.ent.xs) (iter (evStep laws_markStringS_v2.E2 (bodyAt 2 f37) laws_markStringS_v2_l2.ent.ins laws_markStringS_v2_l2.ent.rts laws_markStringS_v2_l2.ent.hm laws_markStringS_v2_l2.ent.nl laws_markStringS_v2_l2.ent.xs) n) v = _
  rw [laws_markStringS_v2_l2.eq, show (fun c0 c1 c2 => iter (evStep laws_markStringS_v2.E2 (bodyAt 2 f37) laws_markStringS_v2_l2.ent.ins laws_markStringS_v2_l2.ent.rts laws_markStringS_v2_l2.ent.hm laws_markStringS_v2_l2.ent.nl laws_markStringS_v2_l2.ent.xs) n (c0, c1, c2, ())) = laws_markStringS_v2_l2 n from by funext c0 c1 c2; exact ih _]
  rfl
theorem laws_markStringS_v2_l2.fr : firstRegion (bodyAt 2 f37) = 2 := by kernel_rfl
theorem laws_markStringS_v2_l2.ls : loopsOf (bodyAt 2 f37) = [] := by kernel_rfl
theorem laws_markStringS_v2_l2.lok {E : Env} (hpin : laws_markStringS_v2.E2.pin = E.pin) (hfind : find 2 E.loops = some laws_markStringS_v2_l2.ent) : LoopOK Pr E (bodyAt 2 f37) :=
 loop_of (E1 := laws_markStringS_v2.E2) (EnvOK.of dok laws_markStringS_v2.fok) mixed hpin (by rw [laws_markStringS_v2_l2.fr]; exact hfind) laws_markStringS_v2_l2.ls (by intro l hl; simp at hl) (fun v => (laws_markStringS_v2_l2.it K0 v).symm)
theorem laws_markStringS_v2.ls : loopsOf (bodyOf f37) = [bodyAt 2 f37] := by kernel_rfl
theorem laws_markStringS_v2.ok : EntryOK Pr 37 laws_markStringS_v2.ent :=
 entry_ok (E := laws_markStringS_v2.E) (EnvOK.of dok laws_markStringS_v2.fok) mixed (fn := f37) (by kernel_rfl) (by kernel_rfl) (by decide) laws_markStringS_v2.ls (by intro l hl; simp only [List.mem_singleton] at hl; subst hl; exact laws_markStringS_v2_l2.lok rfl rfl) laws_markStringS_v2.eq
/-! ### loop.example/g00038/laws.markSentFrames -/
noncomputable def laws_markSentFrames_v2.E : Env := ⟨D, [0], [(37, laws_markStringS_v2.ent)], []⟩
noncomputable def laws_markSentFrames_v2 (a0 : Int) (a1 : ByteArray) (a2 : Int) (a3 : Int) (a4 : Int) (a5 : Bool) (a6 : List ByteArray) (a7 : Int) : Option (Int × List ByteArray × Unit) :=
 (laws_markStringS_v2 a6 a7).bind fun r1 =>
 some (r1.1, r1.2.1, ())
noncomputable def laws_markSentFrames_v2.ent : Entry := ⟨[false, false], [.agg [.val .bor (.int .i64), .val .bor (.str), .val .bor (.int .i64), .val .bor (.int .i64), .val .bor (.int .i64), .val .bor (.bool), .val .lent (.slice (.str))], .cell (.val .bor (.int .i64))], [.cell (.val .bor (.int .i64))], [.cell (.val .lent (.slice (.str)))], fun v => laws_markSentFrames_v2 v.1 v.2.1 v.2.2.1 v.2.2.2.1 v.2.2.2.2.1 v.2.2.2.2.2.1 v.2.2.2.2.2.2.1 v.2.2.2.2.2.2.2.1⟩
theorem laws_markSentFrames_v2.eq : ∀ v, evFn laws_markSentFrames_v2.E f11 laws_markSentFrames_v2.ent.ptrs laws_markSentFrames_v2.ent.ins laws_markSentFrames_v2.ent.rets laws_markSentFrames_v2.ent.outs v = laws_markSentFrames_v2.ent.f v := by intro v; kernel_rfl
theorem laws_markSentFrames_v2.fok : ∀ q ∈ [((37 : Nat), laws_markStringS_v2.ent)], EntryOK Pr q.1 q.2 := by
 intro q hq
 simp only [List.mem_cons, List.mem_nil_iff, or_false] at hq
 rcases hq with rfl
 · exact laws_markStringS_v2.ok
theorem laws_markSentFrames_v2.ls : loopsOf (bodyOf f11) = [] := by kernel_rfl
theorem laws_markSentFrames_v2.ok : EntryOK Pr 11 laws_markSentFrames_v2.ent :=
 entry_ok (E := laws_markSentFrames_v2.E) (EnvOK.of dok laws_markSentFrames_v2.fok) mixed (fn := f11) (by kernel_rfl) (by kernel_rfl) (by decide) laws_markSentFrames_v2.ls (by intro l hl; simp at hl) laws_markSentFrames_v2.eq
/-! ### loop.example/g00038/laws.heldStringS -/
noncomputable def laws_heldStringS.E2 : Env := ⟨D, [], [(73, laws_markText.ent)], []⟩
noncomputable def laws_heldStringS_l2_step (rec : List ByteArray → Int → Int → Option ((Int × Unit) ⊕ (Int × Unit))) (y0 : List ByteArray) (y1 : Int) (y2 : Int) : Option ((Int × Unit) ⊕ (Int × Unit)) :=
 let b1 : Bool := decide (y2 < (y0.length : Int))
 bif b1 then
  (laws_markText y1).bind fun r2 =>
  let b3 : Bool := !seq (rd (.str) y0 y2) r2.1
  bif decide (0 ≤ y2) && decide (y2 < (y0.length : Int)) then
   bif b3 then
    some (Sum.inl (-1, ()))
   else
    rec y0 (wrap64 (y1 + 1)) (wrap64 (y2 + 1))
  else none
 else
  some (Sum.inr (y1, ()))
noncomputable def laws_heldStringS_l2 : Nat → List ByteArray → Int → Int → Option ((Int × Unit) ⊕ (Int × Unit))
 | 0 => fun _ _ _ => none
 | n + 1 => laws_heldStringS_l2_step (laws_heldStringS_l2 n)
noncomputable def laws_heldStringS_l2.ent : LEntry := ⟨(.cell (.val .bor (.slice (.str))) :: (.cell (.val .bor (.int .i64)) :: (sk 3 (.cell (.val .bor (.int .i64)) :: (sk 16 []))))), rk 22 [], [], [], [⟨none, sk 4 (.cell (.val .bor (.int .i64)) :: (sk 17 [])), rk 22 [], [], []⟩, ⟨some 0, sk 1 (.cell (.val .bor (.int .i64)) :: (sk 20 [])), rk 22 [], [], []⟩], fun v => laws_heldStringS_l2 K0 v.1 v.2.1 v.2.2.1⟩
theorem laws_heldStringS_l2.eq : ∀ rec v, evStep laws_heldStringS.E2 (bodyAt 2 f38) laws_heldStringS_l2.ent.ins laws_heldStringS_l2.ent.rts laws_heldStringS_l2.ent.hm laws_heldStringS_l2.ent.nl laws_heldStringS_l2.ent.xs rec v = laws_heldStringS_l2_step (fun c0 c1 c2 => rec (c0, c1, c2, ())) v.1 v.2.1 v.2.2.1 := by intro rec v; kernel_rfl
noncomputable def laws_heldStringS.E : Env := ⟨D, [], [(73, laws_markText.ent)], [(2, laws_heldStringS_l2.ent)]⟩
noncomputable def laws_heldStringS (a0 : List ByteArray) (a1 : Int) : Option (Int × Unit) :=
 (laws_heldStringS_l2 K0 a0 a1 0).bind fun o4 =>
 match o4 with
 | Sum.inl p5 =>
  some (p5.1, ())
 | Sum.inr p6 =>
  some (p6.1, ())
noncomputable def laws_heldStringS.ent : Entry := ⟨[false, false], [.cell (.val .bor (.slice (.str))), .cell (.val .bor (.int .i64))], [.cell (.val .bor (.int .i64))], [], fun v => laws_heldStringS v.1 v.2.1⟩
theorem laws_heldStringS.eq : ∀ v, evFn laws_heldStringS.E f38 laws_heldStringS.ent.ptrs laws_heldStringS.ent.ins laws_heldStringS.ent.rets laws_heldStringS.ent.outs v = laws_heldStringS.ent.f v := by intro v; kernel_rfl
theorem laws_heldStringS.fok : ∀ q ∈ [((73 : Nat), laws_markText.ent)], EntryOK Pr q.1 q.2 := by
 intro q hq
 simp only [List.mem_cons, List.mem_nil_iff, or_false] at hq
 rcases hq with rfl
 · exact laws_markText.ok
theorem laws_heldStringS_l2.it : ∀ n v, iter (evStep laws_heldStringS.E2 (bodyAt 2 f38) laws_heldStringS_l2.ent.ins laws_heldStringS_l2.ent.rts laws_heldStringS_l2.ent.hm laws_heldStringS_l2.ent.nl laws_heldStringS_l2.ent.xs) n v = laws_heldStringS_l2 n v.1 v.2.1 v.2.2.1 := by
 intro n
 induction n with
 | zero => intro v; rfl
 | succ n ih =>
  intro v
  show (evStep laws_heldStringS.E2 (bodyAt 2 f38) laws_heldStringS_l2.ent.ins laws_heldStringS_l2.ent.rts laws_heldStringS_l2.ent.hm laws_heldStringS_l2.ent.nl laws_heldStringS_l2.ent.xs) (iter (evStep laws_heldStringS.E2 (bodyAt 2 f38) laws_heldStringS_l2.ent.ins laws_heldStringS_l2.ent.rts laws_heldStringS_l2.ent.hm laws_heldStringS_l2.ent.nl laws_heldStringS_l2.ent.xs) n) v = _
  rw [laws_heldStringS_l2.eq, show (fun c0 c1 c2 => iter (evStep laws_heldStringS.E2 (bodyAt 2 f38) laws_heldStringS_l2.ent.ins laws_heldStringS_l2.ent.rts laws_heldStringS_l2.ent.hm laws_heldStringS_l2.ent.nl laws_heldStringS_l2.ent.xs) n (c0, c1, c2, ())) = laws_heldStringS_l2 n from by funext c0 c1 c2; exact ih _]
  rfl
theorem laws_heldStringS_l2.fr : firstRegion (bodyAt 2 f38) = 2 := by kernel_rfl
theorem laws_heldStringS_l2.ls : loopsOf (bodyAt 2 f38) = [] := by kernel_rfl
theorem laws_heldStringS_l2.lok {E : Env} (hpin : laws_heldStringS.E2.pin = E.pin) (hfind : find 2 E.loops = some laws_heldStringS_l2.ent) : LoopOK Pr E (bodyAt 2 f38) :=
 loop_of (E1 := laws_heldStringS.E2) (EnvOK.of dok laws_heldStringS.fok) mixed hpin (by rw [laws_heldStringS_l2.fr]; exact hfind) laws_heldStringS_l2.ls (by intro l hl; simp at hl) (fun v => (laws_heldStringS_l2.it K0 v).symm)
theorem laws_heldStringS.ls : loopsOf (bodyOf f38) = [bodyAt 2 f38] := by kernel_rfl
theorem laws_heldStringS.ok : EntryOK Pr 38 laws_heldStringS.ent :=
 entry_ok (E := laws_heldStringS.E) (EnvOK.of dok laws_heldStringS.fok) mixed (fn := f38) (by kernel_rfl) (by kernel_rfl) (by decide) laws_heldStringS.ls (by intro l hl; simp only [List.mem_singleton] at hl; subst hl; exact laws_heldStringS_l2.lok rfl rfl) laws_heldStringS.eq
/-! ### loop.example/g00038/laws.heldSentFrames -/
noncomputable def laws_heldSentFrames.E : Env := ⟨D, [], [(38, laws_heldStringS.ent)], []⟩
noncomputable def laws_heldSentFrames (a0 : Int) (a1 : ByteArray) (a2 : Int) (a3 : Int) (a4 : Int) (a5 : Bool) (a6 : List ByteArray) (a7 : Int) : Option (Int × Unit) :=
 (laws_heldStringS a6 a7).bind fun r1 =>
 bif decide (r1.1 < 0) then
  some (-1, ())
 else
  some (r1.1, ())
noncomputable def laws_heldSentFrames.ent : Entry := ⟨[false, false], [.agg [.val .bor (.int .i64), .val .bor (.str), .val .bor (.int .i64), .val .bor (.int .i64), .val .bor (.int .i64), .val .bor (.bool), .val .bor (.slice (.str))], .cell (.val .bor (.int .i64))], [.cell (.val .bor (.int .i64))], [], fun v => laws_heldSentFrames v.1 v.2.1 v.2.2.1 v.2.2.2.1 v.2.2.2.2.1 v.2.2.2.2.2.1 v.2.2.2.2.2.2.1 v.2.2.2.2.2.2.2.1⟩
theorem laws_heldSentFrames.eq : ∀ v, evFn laws_heldSentFrames.E f12 laws_heldSentFrames.ent.ptrs laws_heldSentFrames.ent.ins laws_heldSentFrames.ent.rets laws_heldSentFrames.ent.outs v = laws_heldSentFrames.ent.f v := by intro v; kernel_rfl
theorem laws_heldSentFrames.fok : ∀ q ∈ [((38 : Nat), laws_heldStringS.ent)], EntryOK Pr q.1 q.2 := by
 intro q hq
 simp only [List.mem_cons, List.mem_nil_iff, or_false] at hq
 rcases hq with rfl
 · exact laws_heldStringS.ok
theorem laws_heldSentFrames.ls : loopsOf (bodyOf f12) = [] := by kernel_rfl
theorem laws_heldSentFrames.ok : EntryOK Pr 12 laws_heldSentFrames.ent :=
 entry_ok (E := laws_heldSentFrames.E) (EnvOK.of dok laws_heldSentFrames.fok) mixed (fn := f12) (by kernel_rfl) (by kernel_rfl) (by decide) laws_heldSentFrames.ls (by intro l hl; simp at hl) laws_heldSentFrames.eq
/-! ### loop.example/g00038/laws.FnExactSendFrames -/
noncomputable def laws_FnExactSendFrames.E : Env := ⟨D, [], [(8, laws_toPacked.ent), (7, spec_SendFrames.ent), (9, impl_SendFrames.ent), (10, laws_eqSentFrames.ent), (11, laws_markSentFrames_v2.ent), (12, laws_heldSentFrames.ent)], []⟩
noncomputable def laws_FnExactSendFrames (a0 : ByteArray) (a1 : Int) (a2 : Int) (a3 : Int) (a4 : Bool) : Option (Bool × Unit) :=
 let b1 : Bool := decide ((a0.size : Int) > 1048576)
 bif b1 then
  some (true, ())
 else
  (laws_toPacked a1 a2 a3 a4).bind fun r2 =>
  (spec_SendFrames a0 r2.1 r2.2.1 r2.2.2.1 r2.2.2.2.1).bind fun r3 =>
  (laws_toPacked a1 a2 a3 a4).bind fun r4 =>
  (impl_SendFrames a0 r4.1 r4.2.1 r4.2.2.1 r4.2.2.2.1).bind fun r5 =>
  (laws_eqSentFrames r5.1 r5.2.1 r5.2.2.1 r5.2.2.2.1 r5.2.2.2.2.1 r5.2.2.2.2.2.1 r5.2.2.2.2.2.2.1 r3.1 r3.2.1 r3.2.2.1 r3.2.2.2.1 r3.2.2.2.2.1 r3.2.2.2.2.2.1 r3.2.2.2.2.2.2.1).bind fun r6 =>
  bif !r6.1 then
   some (false, ())
  else
   (laws_markSentFrames_v2 r5.1 r5.2.1 r5.2.2.1 r5.2.2.2.1 r5.2.2.2.2.1 r5.2.2.2.2.2.1 r5.2.2.2.2.2.2.1 1).bind fun r7 =>
   (laws_heldSentFrames r5.1 r5.2.1 r5.2.2.1 r5.2.2.2.1 r5.2.2.2.2.1 r5.2.2.2.2.2.1 r7.2.1 1).bind fun r8 =>
   bif decide (r8.1 < 0) then
    some (false, ())
   else
   bif (r8.1 != r7.1) then
    some (false, ())
   else
    (laws_toPacked a1 a2 a3 a4).bind fun r9 =>
    (impl_SendFrames a0 r9.1 r9.2.1 r9.2.2.1 r9.2.2.2.1).bind fun r10 =>
    (laws_eqSentFrames r10.1 r10.2.1 r10.2.2.1 r10.2.2.2.1 r10.2.2.2.2.1 r10.2.2.2.2.2.1 r10.2.2.2.2.2.2.1 r3.1 r3.2.1 r3.2.2.1 r3.2.2.2.1 r3.2.2.2.2.1 r3.2.2.2.2.2.1 r3.2.2.2.2.2.2.1).bind fun r11 =>
    bif !r11.1 then
     some (false, ())
    else
     (laws_heldSentFrames r5.1 r5.2.1 r5.2.2.1 r5.2.2.2.1 r5.2.2.2.2.1 r5.2.2.2.2.2.1 r7.2.1 1).bind fun r12 =>
     bif decide (r12.1 < 0) then
      some (false, ())
     else
     bif (r12.1 != r7.1) then
      some (false, ())
     else
      some (true, ())
noncomputable def laws_FnExactSendFrames.ent : Entry := ⟨[false, false], [.cell (.val .bor (.str)), .agg [.val .bor (.int .i64), .val .bor (.int .i64), .val .bor (.int .i64), .val .bor (.bool)]], [.cell (.val .bor (.bool))], [], fun v => laws_FnExactSendFrames v.1 v.2.1 v.2.2.1 v.2.2.2.1 v.2.2.2.2.1⟩
theorem laws_FnExactSendFrames.eq : ∀ v, evFn laws_FnExactSendFrames.E f3 laws_FnExactSendFrames.ent.ptrs laws_FnExactSendFrames.ent.ins laws_FnExactSendFrames.ent.rets laws_FnExactSendFrames.ent.outs v = laws_FnExactSendFrames.ent.f v := by intro v; kernel_rfl
theorem laws_FnExactSendFrames.fok : ∀ q ∈ [((8 : Nat), laws_toPacked.ent), ((7 : Nat), spec_SendFrames.ent), ((9 : Nat), impl_SendFrames.ent), ((10 : Nat), laws_eqSentFrames.ent), ((11 : Nat), laws_markSentFrames_v2.ent), ((12 : Nat), laws_heldSentFrames.ent)], EntryOK Pr q.1 q.2 := by
 intro q hq
 simp only [List.mem_cons, List.mem_nil_iff, or_false] at hq
 rcases hq with rfl | rfl | rfl | rfl | rfl | rfl
 · exact laws_toPacked.ok
 · exact spec_SendFrames.ok
 · exact impl_SendFrames.ok
 · exact laws_eqSentFrames.ok
 · exact laws_markSentFrames_v2.ok
 · exact laws_heldSentFrames.ok
theorem laws_FnExactSendFrames.ls : loopsOf (bodyOf f3) = [] := by kernel_rfl
theorem laws_FnExactSendFrames.ok : EntryOK Pr 3 laws_FnExactSendFrames.ent :=
 entry_ok (E := laws_FnExactSendFrames.E) (EnvOK.of dok laws_FnExactSendFrames.fok) mixed (fn := f3) (by kernel_rfl) (by kernel_rfl) (by decide) laws_FnExactSendFrames.ls (by intro l hl; simp at hl) laws_FnExactSendFrames.eq
end Go.Ab.FnExactSendFrames